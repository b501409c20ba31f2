import Derived.Test.YtjmafnkknohinaaK2
namespace Go.Proofs.Ytjmafnkknohinaa
open Go.RowKit Go.Shelf Go.Deep

set_option maxRecDepth 100000 in
set_option maxHeartbeats 2000000 in
theorem law5 (w : World) (d : DiskD) (v : Value) (h : IsDisk w (NB []) v d) (hL : Lens d) (x : Int) : Calls Try.prog 5 #[v, .int .i64 x] w fun e w' => e = .returned (.bool true) ∧ Below w.heap.size w w' := by
  obtain ⟨sA0, sc0, pA0, pc0, rfl, -⟩ := h.parts
  have D0_w := Lib.hid h
  clear h
  obtain ⟨r3, hr3⟩ : ∃ r, syncD d = r := ⟨_, rfl⟩
  obtain ⟨r5, hr5⟩ : ∃ r, stopD d x = r := ⟨_, rfl⟩
  have HR3 := Lib.hid hr3
  have HR5 := Lib.hid hr5
  clear hr3 hr5
  go_enter Try.func5, Try.ntmps5
  go_wp2_with fail
  refine nameW fun W1 hW1 => ?_
  have kpW1 : Kp [w.heap.size] w W1 := by rw [hW1.out]; repeat (first | exact Kp.refl _ _ | refine Kp.alloc ?_ _ | refine Kp.setCell ?_ (by simp) _ _ | refine Kp.drew ?_ | refine Kp.drewN ?_ _)
  have bwW1 : Below w.heap.size w W1 := by rw [hW1.out]; repeat (first | exact Below.refl _ _ | refine Below.alloc ?_ (by (repeat (first | simp only [World.size_alloc] | simp only [size_set] | simp only [World.size_drew])); omega) _ | refine Below.setCell ?_ (by first | (dsimp only; omega) | omega) _ | refine Below.drew ?_ | refine below_drewN ?_ _)
  have szW1 : w.heap.size ≤ W1.heap.size := kpW1.size
  have Bx_W1 : Hid (W1.heap[w.heap.size]? = some (.cells #[.slice sA0 d.sectors.length sc0, .slice pA0 d.pending.length pc0, .int .i64 d.left, .bool d.stopped] 25 (0, 0))) := by show _ = _; rw [hW1.out]; (repeat (first | simp only [heap_drew] | simp only [World.heap_drewN] | simp only [heap_alloc_if] | simp only [heap_set_if] | simp only [World.size_alloc] | simp only [size_set] | simp only [World.size_drew])); (repeat (first | rw [if_pos trivial] | rw [if_pos (by omega)] | rw [if_neg (by omega)]))
  have ltx_W1 : w.heap.size < W1.heap.size := lt_heap Bx_W1.out
  have mkx : w.heap.size < W1.heap.size := ltx_W1
  have inW1 : InW [w.heap.size] W1 := by intro b hb; simp at hb; omega
  have D0_W1 := Lib.hid (((D0_w.out).box (by omega)).kp kpW1)
  clear D0_w
  have C1 := Lib.hid (sane_any W1)
  refine C1.out.mono ?_
  rintro e w1 ⟨rfl, hb1⟩
  have Bx_w1 := Lib.hid ((hb1.block (w.heap.size) (by omega)).trans Bx_W1.out)
  have ltx_w1 : w.heap.size < w1.heap.size := lt_heap Bx_w1.out
  have D0_w1 := Lib.hid (D0_W1.out.below hb1)
  have bww1 := Lib.hid (bwW1.trans (hb1.mono bwW1.size))
  have szw1 : W1.heap.size ≤ w1.heap.size := hb1.size
  clear Bx_W1 ltx_W1 D0_W1
  clear kpW1 bwW1 inW1 hb1
  clear C1
  obtain ⟨⟨c0, c1, c2, c3⟩, ⟨cf0, cf1, cf2, cf3⟩⟩ := blk4 (Below.refl _ w1) Bx_w1.out (Nat.lt_succ_self _)
  go_wp2_with fail
  refine nameW fun W2 hW2 => ?_
  have kpW2 : Kp [w.heap.size] w1 W2 := by rw [hW2.out]; repeat (first | exact Kp.refl _ _ | refine Kp.alloc ?_ _ | refine Kp.setCell ?_ (by simp) _ _ | refine Kp.drew ?_ | refine Kp.drewN ?_ _)
  have bwW2 : Below w.heap.size w W2 := by rw [hW2.out]; repeat (first | exact bww1.out | refine Below.alloc ?_ (by (repeat (first | simp only [World.size_alloc] | simp only [size_set] | simp only [World.size_drew])); omega) _ | refine Below.setCell ?_ (by first | (dsimp only; omega) | omega) _ | refine Below.drew ?_ | refine below_drewN ?_ _)
  have szW2 : w1.heap.size ≤ W2.heap.size := kpW2.size
  have Bx_W2 : Hid (W2.heap[w.heap.size]? = some (.cells #[.slice sA0 d.sectors.length sc0, .slice pA0 d.pending.length pc0, .int .i64 d.left, .bool d.stopped] 25 (0, 0))) := by show _ = _; rw [hW2.out]; (repeat (first | simp only [heap_drew] | simp only [World.heap_drewN] | simp only [heap_alloc_if] | simp only [heap_set_if] | simp only [World.size_alloc] | simp only [size_set] | simp only [World.size_drew])); (repeat (first | rw [if_pos trivial] | rw [if_pos (by omega)] | rw [if_neg (by omega)])); exact Bx_w1.out
  have ltx_W2 : w.heap.size < W2.heap.size := lt_heap Bx_W2.out
  have inW2 : InW [w.heap.size] W2 := by intro b hb; simp at hb; omega
  have D0_W2 := Lib.hid ((D0_w1.out).kp kpW2)
  clear Bx_w1 ltx_w1 D0_w1 c0 c1 c2 c3 cf0 cf1 cf2 cf3
  have C2 := Lib.hid (few_any W2 (NB [w.heap.size]) d _ D0_W2.out hL)
  refine C2.out.mono ?_
  rintro e w2 ⟨fb, rfl, hsm, hb2⟩
  have HSM := Lib.hid hsm
  clear hsm
  have Bx_w2 := Lib.hid ((hb2.block (w.heap.size) (by omega)).trans Bx_W2.out)
  have ltx_w2 : w.heap.size < w2.heap.size := lt_heap Bx_w2.out
  have D0_w2 := Lib.hid (D0_W2.out.below hb2)
  have bww2 := Lib.hid (bwW2.trans (hb2.mono bwW2.size))
  have szw2 : W2.heap.size ≤ w2.heap.size := hb2.size
  clear Bx_W2 ltx_W2 D0_W2
  clear kpW2 bwW2 inW2 hb2
  clear C2
  cases fb with
  | false =>
    go_wp2_with fail
    go_ret
    exact ⟨rfl, bww2.out⟩
  | true =>
    obtain ⟨⟨c0, c1, c2, c3⟩, ⟨cf0, cf1, cf2, cf3⟩⟩ := blk4 (Below.refl _ w2) Bx_w2.out (Nat.lt_succ_self _)
    go_wp2_with fail
    refine nameW fun W3 hW3 => ?_
    have kpW3 : Kp [w.heap.size] w2 W3 := by rw [hW3.out]; repeat (first | exact Kp.refl _ _ | refine Kp.alloc ?_ _ | refine Kp.setCell ?_ (by simp) _ _ | refine Kp.drew ?_ | refine Kp.drewN ?_ _)
    have bwW3 : Below w.heap.size w W3 := by rw [hW3.out]; repeat (first | exact bww2.out | refine Below.alloc ?_ (by (repeat (first | simp only [World.size_alloc] | simp only [size_set] | simp only [World.size_drew])); omega) _ | refine Below.setCell ?_ (by first | (dsimp only; omega) | omega) _ | refine Below.drew ?_ | refine below_drewN ?_ _)
    have szW3 : w2.heap.size ≤ W3.heap.size := kpW3.size
    have Bx_W3 : Hid (W3.heap[w.heap.size]? = some (.cells #[.slice sA0 d.sectors.length sc0, .slice pA0 d.pending.length pc0, .int .i64 d.left, .bool d.stopped] 25 (0, 0))) := by show _ = _; rw [hW3.out]; (repeat (first | simp only [heap_drew] | simp only [World.heap_drewN] | simp only [heap_alloc_if] | simp only [heap_set_if] | simp only [World.size_alloc] | simp only [size_set] | simp only [World.size_drew])); (repeat (first | rw [if_pos trivial] | rw [if_pos (by omega)] | rw [if_neg (by omega)])); exact Bx_w2.out
    have ltx_W3 : w.heap.size < W3.heap.size := lt_heap Bx_W3.out
    have inW3 : InW [w.heap.size] W3 := by intro b hb; simp at hb; omega
    have D0_W3 := Lib.hid ((D0_w2.out).kp kpW3)
    clear Bx_w2 ltx_w2 D0_w2 c0 c1 c2 c3 cf0 cf1 cf2 cf3
    have C3 := Lib.hid (sync_l [w.heap.size] W3 inW3 d _ D0_W3.out)
    rw [HR3.out] at C3
    refine C3.out.mono ?_
    rintro e w3 ⟨v3, rfl, hD3, hb3⟩
    obtain ⟨sA3, sc3, pA3, pc3, rfl, -⟩ := hD3.parts
    have Bx_w3 := Lib.hid ((hb3.block (w.heap.size) (by omega)).trans Bx_W3.out)
    have ltx_w3 : w.heap.size < w3.heap.size := lt_heap Bx_w3.out
    have D0_w3 := Lib.hid (D0_W3.out.below hb3)
    have bww3 := Lib.hid (bwW3.trans (hb3.mono bwW3.size))
    have szw3 : W3.heap.size ≤ w3.heap.size := hb3.size
    clear Bx_W3 ltx_W3 D0_W3
    clear kpW3 bwW3 inW3 hb3
    have D3_w3 := Lib.hid hD3
    clear hD3 C3
    obtain ⟨⟨c0, c1, c2, c3⟩, ⟨cf0, cf1, cf2, cf3⟩⟩ := blk4 (Below.refl _ w3) Bx_w3.out (Nat.lt_succ_self _)
    go_wp2_with fail
    refine nameW fun W4 hW4 => ?_
    have kpW4 : Kp [w3.heap.size, w.heap.size] w3 W4 := by rw [hW4.out]; repeat (first | exact Kp.refl _ _ | refine Kp.alloc ?_ _ | refine Kp.setCell ?_ (by simp) _ _ | refine Kp.drew ?_ | refine Kp.drewN ?_ _)
    have bwW4 : Below w.heap.size w W4 := by rw [hW4.out]; repeat (first | exact bww3.out | refine Below.alloc ?_ (by (repeat (first | simp only [World.size_alloc] | simp only [size_set] | simp only [World.size_drew])); omega) _ | refine Below.setCell ?_ (by first | (dsimp only; omega) | omega) _ | refine Below.drew ?_ | refine below_drewN ?_ _)
    have szW4 : w3.heap.size ≤ W4.heap.size := kpW4.size
    have By3_W4 : Hid (W4.heap[w3.heap.size]? = some (.cells #[.slice sA3 r3.1.sectors.length sc3, .slice pA3 r3.1.pending.length pc3, .int .i64 r3.1.left, .bool r3.1.stopped] 25 (0, 0))) := by show _ = _; rw [hW4.out]; (repeat (first | simp only [heap_drew] | simp only [World.heap_drewN] | simp only [heap_alloc_if] | simp only [heap_set_if] | simp only [World.size_alloc] | simp only [size_set] | simp only [World.size_drew])); (repeat (first | rw [if_pos trivial] | rw [if_pos (by omega)] | rw [if_neg (by omega)]))
    have lty3_W4 : w3.heap.size < W4.heap.size := lt_heap By3_W4.out
    have mky3 : w3.heap.size < W4.heap.size := lty3_W4
    have Bx_W4 : Hid (W4.heap[w.heap.size]? = some (.cells #[.slice sA0 d.sectors.length sc0, .slice pA0 d.pending.length pc0, .int .i64 d.left, .bool d.stopped] 25 (0, 0))) := by show _ = _; rw [hW4.out]; (repeat (first | simp only [heap_drew] | simp only [World.heap_drewN] | simp only [heap_alloc_if] | simp only [heap_set_if] | simp only [World.size_alloc] | simp only [size_set] | simp only [World.size_drew])); (repeat (first | rw [if_pos trivial] | rw [if_pos (by omega)] | rw [if_neg (by omega)])); exact Bx_w3.out
    have ltx_W4 : w.heap.size < W4.heap.size := lt_heap Bx_W4.out
    have inW4 : InW [w3.heap.size, w.heap.size] W4 := by intro b hb; simp at hb; omega
    have D0_W4 := Lib.hid (((D0_w3.out).box (by omega)).kp kpW4)
    have D3_W4 := Lib.hid (((D3_w3.out).box (by omega)).kp kpW4)
    clear Bx_w3 ltx_w3 D0_w3 D3_w3 c0 c1 c2 c3 cf0 cf1 cf2 cf3
    have C4 := Lib.hid (refSync_l [w3.heap.size, w.heap.size] W4 inW4 d _ D0_W4.out)
    rw [HR3.out] at C4
    refine C4.out.mono ?_
    rintro e w4 ⟨v4, rfl, hD4, hb4⟩
    obtain ⟨sA4, sc4, pA4, pc4, rfl, -⟩ := hD4.parts
    have Bx_w4 := Lib.hid ((hb4.block (w.heap.size) (by omega)).trans Bx_W4.out)
    have ltx_w4 : w.heap.size < w4.heap.size := lt_heap Bx_w4.out
    have By3_w4 := Lib.hid ((hb4.block (w3.heap.size) (by omega)).trans By3_W4.out)
    have lty3_w4 : w3.heap.size < w4.heap.size := lt_heap By3_w4.out
    have D0_w4 := Lib.hid (D0_W4.out.below hb4)
    have D3_w4 := Lib.hid (D3_W4.out.below hb4)
    have bww4 := Lib.hid (bwW4.trans (hb4.mono bwW4.size))
    have szw4 : W4.heap.size ≤ w4.heap.size := hb4.size
    clear Bx_W4 By3_W4 ltx_W4 lty3_W4 D0_W4 D3_W4
    clear kpW4 bwW4 inW4 hb4
    have D4_w4 := Lib.hid hD4
    clear hD4 C4
    obtain ⟨⟨c0, c1, c2, c3⟩, ⟨cf0, cf1, cf2, cf3⟩⟩ := blk4 (Below.refl _ w4) Bx_w4.out (Nat.lt_succ_self _)
    go_wp2_with fail
    refine nameW fun W5 hW5 => ?_
    have kpW5 : Kp [w4.heap.size, w3.heap.size, w.heap.size] w4 W5 := by rw [hW5.out]; repeat (first | exact Kp.refl _ _ | refine Kp.alloc ?_ _ | refine Kp.setCell ?_ (by simp) _ _ | refine Kp.drew ?_ | refine Kp.drewN ?_ _)
    have bwW5 : Below w.heap.size w W5 := by rw [hW5.out]; repeat (first | exact bww4.out | refine Below.alloc ?_ (by (repeat (first | simp only [World.size_alloc] | simp only [size_set] | simp only [World.size_drew])); omega) _ | refine Below.setCell ?_ (by first | (dsimp only; omega) | omega) _ | refine Below.drew ?_ | refine below_drewN ?_ _)
    have szW5 : w4.heap.size ≤ W5.heap.size := kpW5.size
    have By4_W5 : Hid (W5.heap[w4.heap.size]? = some (.cells #[.slice sA4 r3.1.sectors.length sc4, .slice pA4 r3.1.pending.length pc4, .int .i64 r3.1.left, .bool r3.1.stopped] 25 (0, 0))) := by show _ = _; rw [hW5.out]; (repeat (first | simp only [heap_drew] | simp only [World.heap_drewN] | simp only [heap_alloc_if] | simp only [heap_set_if] | simp only [World.size_alloc] | simp only [size_set] | simp only [World.size_drew])); (repeat (first | rw [if_pos trivial] | rw [if_pos (by omega)] | rw [if_neg (by omega)]))
    have lty4_W5 : w4.heap.size < W5.heap.size := lt_heap By4_W5.out
    have mky4 : w4.heap.size < W5.heap.size := lty4_W5
    have Bx_W5 : Hid (W5.heap[w.heap.size]? = some (.cells #[.slice sA0 d.sectors.length sc0, .slice pA0 d.pending.length pc0, .int .i64 d.left, .bool d.stopped] 25 (0, 0))) := by show _ = _; rw [hW5.out]; (repeat (first | simp only [heap_drew] | simp only [World.heap_drewN] | simp only [heap_alloc_if] | simp only [heap_set_if] | simp only [World.size_alloc] | simp only [size_set] | simp only [World.size_drew])); (repeat (first | rw [if_pos trivial] | rw [if_pos (by omega)] | rw [if_neg (by omega)])); exact Bx_w4.out
    have ltx_W5 : w.heap.size < W5.heap.size := lt_heap Bx_W5.out
    have By3_W5 : Hid (W5.heap[w3.heap.size]? = some (.cells #[.slice sA3 r3.1.sectors.length sc3, .slice pA3 r3.1.pending.length pc3, .int .i64 r3.1.left, .bool r3.1.stopped] 25 (0, 0))) := by show _ = _; rw [hW5.out]; (repeat (first | simp only [heap_drew] | simp only [World.heap_drewN] | simp only [heap_alloc_if] | simp only [heap_set_if] | simp only [World.size_alloc] | simp only [size_set] | simp only [World.size_drew])); (repeat (first | rw [if_pos trivial] | rw [if_pos (by omega)] | rw [if_neg (by omega)])); exact By3_w4.out
    have lty3_W5 : w3.heap.size < W5.heap.size := lt_heap By3_W5.out
    have inW5 : InW [w4.heap.size, w3.heap.size, w.heap.size] W5 := by intro b hb; simp at hb; omega
    have D0_W5 := Lib.hid (((D0_w4.out).box (by omega)).kp kpW5)
    have D3_W5 := Lib.hid (((D3_w4.out).box (by omega)).kp kpW5)
    have D4_W5 := Lib.hid (((D4_w4.out).box (by omega)).kp kpW5)
    clear Bx_w4 By3_w4 ltx_w4 lty3_w4 D0_w4 D3_w4 D4_w4 c0 c1 c2 c3 cf0 cf1 cf2 cf3
    have C5 := Lib.hid (stop_l [w4.heap.size, w3.heap.size, w.heap.size] W5 d _ D0_W5.out x)
    rw [HR5.out] at C5
    refine C5.out.mono ?_
    rintro e w5 ⟨v5, rfl, hD5, hb5⟩
    obtain ⟨sA5, sc5, pA5, pc5, rfl, -⟩ := hD5.parts
    have Bx_w5 := Lib.hid ((hb5.block (w.heap.size) (by omega)).trans Bx_W5.out)
    have ltx_w5 : w.heap.size < w5.heap.size := lt_heap Bx_w5.out
    have By3_w5 := Lib.hid ((hb5.block (w3.heap.size) (by omega)).trans By3_W5.out)
    have lty3_w5 : w3.heap.size < w5.heap.size := lt_heap By3_w5.out
    have By4_w5 := Lib.hid ((hb5.block (w4.heap.size) (by omega)).trans By4_W5.out)
    have lty4_w5 : w4.heap.size < w5.heap.size := lt_heap By4_w5.out
    have D0_w5 := Lib.hid (D0_W5.out.below hb5)
    have D3_w5 := Lib.hid (D3_W5.out.below hb5)
    have D4_w5 := Lib.hid (D4_W5.out.below hb5)
    have bww5 := Lib.hid (bwW5.trans (hb5.mono bwW5.size))
    have szw5 : W5.heap.size ≤ w5.heap.size := hb5.size
    clear Bx_W5 By3_W5 By4_W5 ltx_W5 lty3_W5 lty4_W5 D0_W5 D3_W5 D4_W5
    clear kpW5 bwW5 inW5 hb5
    have D5_w5 := Lib.hid hD5
    clear hD5 C5
    obtain ⟨⟨c0, c1, c2, c3⟩, ⟨cf0, cf1, cf2, cf3⟩⟩ := blk4 (Below.refl _ w5) Bx_w5.out (Nat.lt_succ_self _)
    go_wp2_with fail
    refine nameW fun W6 hW6 => ?_
    have kpW6 : Kp [w5.heap.size, w4.heap.size, w3.heap.size, w.heap.size] w5 W6 := by rw [hW6.out]; repeat (first | exact Kp.refl _ _ | refine Kp.alloc ?_ _ | refine Kp.setCell ?_ (by simp) _ _ | refine Kp.drew ?_ | refine Kp.drewN ?_ _)
    have bwW6 : Below w.heap.size w W6 := by rw [hW6.out]; repeat (first | exact bww5.out | refine Below.alloc ?_ (by (repeat (first | simp only [World.size_alloc] | simp only [size_set] | simp only [World.size_drew])); omega) _ | refine Below.setCell ?_ (by first | (dsimp only; omega) | omega) _ | refine Below.drew ?_ | refine below_drewN ?_ _)
    have szW6 : w5.heap.size ≤ W6.heap.size := kpW6.size
    have By5_W6 : Hid (W6.heap[w5.heap.size]? = some (.cells #[.slice sA5 r5.1.sectors.length sc5, .slice pA5 r5.1.pending.length pc5, .int .i64 r5.1.left, .bool r5.1.stopped] 25 (0, 0))) := by show _ = _; rw [hW6.out]; (repeat (first | simp only [heap_drew] | simp only [World.heap_drewN] | simp only [heap_alloc_if] | simp only [heap_set_if] | simp only [World.size_alloc] | simp only [size_set] | simp only [World.size_drew])); (repeat (first | rw [if_pos trivial] | rw [if_pos (by omega)] | rw [if_neg (by omega)]))
    have lty5_W6 : w5.heap.size < W6.heap.size := lt_heap By5_W6.out
    have mky5 : w5.heap.size < W6.heap.size := lty5_W6
    have Bx_W6 : Hid (W6.heap[w.heap.size]? = some (.cells #[.slice sA0 d.sectors.length sc0, .slice pA0 d.pending.length pc0, .int .i64 d.left, .bool d.stopped] 25 (0, 0))) := by show _ = _; rw [hW6.out]; (repeat (first | simp only [heap_drew] | simp only [World.heap_drewN] | simp only [heap_alloc_if] | simp only [heap_set_if] | simp only [World.size_alloc] | simp only [size_set] | simp only [World.size_drew])); (repeat (first | rw [if_pos trivial] | rw [if_pos (by omega)] | rw [if_neg (by omega)])); exact Bx_w5.out
    have ltx_W6 : w.heap.size < W6.heap.size := lt_heap Bx_W6.out
    have By3_W6 : Hid (W6.heap[w3.heap.size]? = some (.cells #[.slice sA3 r3.1.sectors.length sc3, .slice pA3 r3.1.pending.length pc3, .int .i64 r3.1.left, .bool r3.1.stopped] 25 (0, 0))) := by show _ = _; rw [hW6.out]; (repeat (first | simp only [heap_drew] | simp only [World.heap_drewN] | simp only [heap_alloc_if] | simp only [heap_set_if] | simp only [World.size_alloc] | simp only [size_set] | simp only [World.size_drew])); (repeat (first | rw [if_pos trivial] | rw [if_pos (by omega)] | rw [if_neg (by omega)])); exact By3_w5.out
    have lty3_W6 : w3.heap.size < W6.heap.size := lt_heap By3_W6.out
    have By4_W6 : Hid (W6.heap[w4.heap.size]? = some (.cells #[.slice sA4 r3.1.sectors.length sc4, .slice pA4 r3.1.pending.length pc4, .int .i64 r3.1.left, .bool r3.1.stopped] 25 (0, 0))) := by show _ = _; rw [hW6.out]; (repeat (first | simp only [heap_drew] | simp only [World.heap_drewN] | simp only [heap_alloc_if] | simp only [heap_set_if] | simp only [World.size_alloc] | simp only [size_set] | simp only [World.size_drew])); (repeat (first | rw [if_pos trivial] | rw [if_pos (by omega)] | rw [if_neg (by omega)])); exact By4_w5.out
    have lty4_W6 : w4.heap.size < W6.heap.size := lt_heap By4_W6.out
    have inW6 : InW [w5.heap.size, w4.heap.size, w3.heap.size, w.heap.size] W6 := by intro b hb; simp at hb; omega
    have D0_W6 := Lib.hid (((D0_w5.out).box (by omega)).kp kpW6)
    have D3_W6 := Lib.hid (((D3_w5.out).box (by omega)).kp kpW6)
    have D4_W6 := Lib.hid (((D4_w5.out).box (by omega)).kp kpW6)
    have D5_W6 := Lib.hid (((D5_w5.out).box (by omega)).kp kpW6)
    clear Bx_w5 By3_w5 By4_w5 ltx_w5 lty3_w5 lty4_w5 D0_w5 D3_w5 D4_w5 D5_w5 c0 c1 c2 c3 cf0 cf1 cf2 cf3
    have C6 := Lib.hid (refStop_l [w5.heap.size, w4.heap.size, w3.heap.size, w.heap.size] W6 d _ D0_W6.out x)
    rw [HR5.out] at C6
    refine C6.out.mono ?_
    rintro e w6 ⟨v6, rfl, hD6, hb6⟩
    obtain ⟨sA6, sc6, pA6, pc6, rfl, -⟩ := hD6.parts
    have Bx_w6 := Lib.hid ((hb6.block (w.heap.size) (by omega)).trans Bx_W6.out)
    have ltx_w6 : w.heap.size < w6.heap.size := lt_heap Bx_w6.out
    have By3_w6 := Lib.hid ((hb6.block (w3.heap.size) (by omega)).trans By3_W6.out)
    have lty3_w6 : w3.heap.size < w6.heap.size := lt_heap By3_w6.out
    have By4_w6 := Lib.hid ((hb6.block (w4.heap.size) (by omega)).trans By4_W6.out)
    have lty4_w6 : w4.heap.size < w6.heap.size := lt_heap By4_w6.out
    have By5_w6 := Lib.hid ((hb6.block (w5.heap.size) (by omega)).trans By5_W6.out)
    have lty5_w6 : w5.heap.size < w6.heap.size := lt_heap By5_w6.out
    have D0_w6 := Lib.hid (D0_W6.out.below hb6)
    have D3_w6 := Lib.hid (D3_W6.out.below hb6)
    have D4_w6 := Lib.hid (D4_W6.out.below hb6)
    have D5_w6 := Lib.hid (D5_W6.out.below hb6)
    have bww6 := Lib.hid (bwW6.trans (hb6.mono bwW6.size))
    have szw6 : W6.heap.size ≤ w6.heap.size := hb6.size
    clear Bx_W6 By3_W6 By4_W6 By5_W6 ltx_W6 lty3_W6 lty4_W6 lty5_W6 D0_W6 D3_W6 D4_W6 D5_W6
    clear kpW6 bwW6 inW6 hb6
    have D6_w6 := Lib.hid hD6
    clear hD6 C6
    obtain ⟨⟨c0, c1, c2, c3⟩, ⟨cf0, cf1, cf2, cf3⟩⟩ := blk4 (Below.refl _ w6) By3_w6.out (Nat.lt_succ_self _)
    obtain ⟨⟨d0, d1, d2, d3⟩, ⟨df0, df1, df2, df3⟩⟩ := blk4 (Below.refl _ w6) By4_w6.out (Nat.lt_succ_self _)
    go_wp2_with fail
    refine nameW fun W7 hW7 => ?_
    have kpW7 : Kp [w6.heap.size, w5.heap.size, w4.heap.size, w3.heap.size, w.heap.size] w6 W7 := by rw [hW7.out]; repeat (first | exact Kp.refl _ _ | refine Kp.alloc ?_ _ | refine Kp.setCell ?_ (by simp) _ _ | refine Kp.drew ?_ | refine Kp.drewN ?_ _)
    have bwW7 : Below w.heap.size w W7 := by rw [hW7.out]; repeat (first | exact bww6.out | refine Below.alloc ?_ (by (repeat (first | simp only [World.size_alloc] | simp only [size_set] | simp only [World.size_drew])); omega) _ | refine Below.setCell ?_ (by first | (dsimp only; omega) | omega) _ | refine Below.drew ?_ | refine below_drewN ?_ _)
    have szW7 : w6.heap.size ≤ W7.heap.size := kpW7.size
    have By6_W7 : Hid (W7.heap[w6.heap.size]? = some (.cells #[.slice sA6 r5.1.sectors.length sc6, .slice pA6 r5.1.pending.length pc6, .int .i64 r5.1.left, .bool r5.1.stopped] 25 (0, 0))) := by show _ = _; rw [hW7.out]; (repeat (first | simp only [heap_drew] | simp only [World.heap_drewN] | simp only [heap_alloc_if] | simp only [heap_set_if] | simp only [World.size_alloc] | simp only [size_set] | simp only [World.size_drew])); (repeat (first | rw [if_pos trivial] | rw [if_pos (by omega)] | rw [if_neg (by omega)]))
    have lty6_W7 : w6.heap.size < W7.heap.size := lt_heap By6_W7.out
    have mky6 : w6.heap.size < W7.heap.size := lty6_W7
    have Bx_W7 : Hid (W7.heap[w.heap.size]? = some (.cells #[.slice sA0 d.sectors.length sc0, .slice pA0 d.pending.length pc0, .int .i64 d.left, .bool d.stopped] 25 (0, 0))) := by show _ = _; rw [hW7.out]; (repeat (first | simp only [heap_drew] | simp only [World.heap_drewN] | simp only [heap_alloc_if] | simp only [heap_set_if] | simp only [World.size_alloc] | simp only [size_set] | simp only [World.size_drew])); (repeat (first | rw [if_pos trivial] | rw [if_pos (by omega)] | rw [if_neg (by omega)])); exact Bx_w6.out
    have ltx_W7 : w.heap.size < W7.heap.size := lt_heap Bx_W7.out
    have By3_W7 : Hid (W7.heap[w3.heap.size]? = some (.cells #[.slice sA3 r3.1.sectors.length sc3, .slice pA3 r3.1.pending.length pc3, .int .i64 r3.1.left, .bool r3.1.stopped] 25 (0, 0))) := by show _ = _; rw [hW7.out]; (repeat (first | simp only [heap_drew] | simp only [World.heap_drewN] | simp only [heap_alloc_if] | simp only [heap_set_if] | simp only [World.size_alloc] | simp only [size_set] | simp only [World.size_drew])); (repeat (first | rw [if_pos trivial] | rw [if_pos (by omega)] | rw [if_neg (by omega)])); exact By3_w6.out
    have lty3_W7 : w3.heap.size < W7.heap.size := lt_heap By3_W7.out
    have By4_W7 : Hid (W7.heap[w4.heap.size]? = some (.cells #[.slice sA4 r3.1.sectors.length sc4, .slice pA4 r3.1.pending.length pc4, .int .i64 r3.1.left, .bool r3.1.stopped] 25 (0, 0))) := by show _ = _; rw [hW7.out]; (repeat (first | simp only [heap_drew] | simp only [World.heap_drewN] | simp only [heap_alloc_if] | simp only [heap_set_if] | simp only [World.size_alloc] | simp only [size_set] | simp only [World.size_drew])); (repeat (first | rw [if_pos trivial] | rw [if_pos (by omega)] | rw [if_neg (by omega)])); exact By4_w6.out
    have lty4_W7 : w4.heap.size < W7.heap.size := lt_heap By4_W7.out
    have By5_W7 : Hid (W7.heap[w5.heap.size]? = some (.cells #[.slice sA5 r5.1.sectors.length sc5, .slice pA5 r5.1.pending.length pc5, .int .i64 r5.1.left, .bool r5.1.stopped] 25 (0, 0))) := by show _ = _; rw [hW7.out]; (repeat (first | simp only [heap_drew] | simp only [World.heap_drewN] | simp only [heap_alloc_if] | simp only [heap_set_if] | simp only [World.size_alloc] | simp only [size_set] | simp only [World.size_drew])); (repeat (first | rw [if_pos trivial] | rw [if_pos (by omega)] | rw [if_neg (by omega)])); exact By5_w6.out
    have lty5_W7 : w5.heap.size < W7.heap.size := lt_heap By5_W7.out
    have inW7 : InW [w6.heap.size, w5.heap.size, w4.heap.size, w3.heap.size, w.heap.size] W7 := by intro b hb; simp at hb; omega
    have D0_W7 := Lib.hid (((D0_w6.out).box (by omega)).kp kpW7)
    have D3_W7 := Lib.hid (((D3_w6.out).box (by omega)).kp kpW7)
    have D4_W7 := Lib.hid (((D4_w6.out).box (by omega)).kp kpW7)
    have D5_W7 := Lib.hid (((D5_w6.out).box (by omega)).kp kpW7)
    have D6_W7 := Lib.hid (((D6_w6.out).box (by omega)).kp kpW7)
    clear Bx_w6 By3_w6 By4_w6 By5_w6 ltx_w6 lty3_w6 lty4_w6 lty5_w6 D0_w6 D3_w6 D4_w6 D5_w6 D6_w6 c0 c1 c2 c3 cf0 cf1 cf2 cf3 d0 d1 d2 d3 df0 df1 df2 df3
    have C7 := Lib.hid (same_any W7 _ _ r3.1 _ _ D3_W7.out D4_W7.out)
    refine C7.out.mono ?_
    rintro e w7 ⟨rfl, hb7⟩
    have Bx_w7 := Lib.hid ((hb7.block (w.heap.size) (by omega)).trans Bx_W7.out)
    have ltx_w7 : w.heap.size < w7.heap.size := lt_heap Bx_w7.out
    have By3_w7 := Lib.hid ((hb7.block (w3.heap.size) (by omega)).trans By3_W7.out)
    have lty3_w7 : w3.heap.size < w7.heap.size := lt_heap By3_w7.out
    have By4_w7 := Lib.hid ((hb7.block (w4.heap.size) (by omega)).trans By4_W7.out)
    have lty4_w7 : w4.heap.size < w7.heap.size := lt_heap By4_w7.out
    have By5_w7 := Lib.hid ((hb7.block (w5.heap.size) (by omega)).trans By5_W7.out)
    have lty5_w7 : w5.heap.size < w7.heap.size := lt_heap By5_w7.out
    have By6_w7 := Lib.hid ((hb7.block (w6.heap.size) (by omega)).trans By6_W7.out)
    have lty6_w7 : w6.heap.size < w7.heap.size := lt_heap By6_w7.out
    have D0_w7 := Lib.hid (D0_W7.out.below hb7)
    have D3_w7 := Lib.hid (D3_W7.out.below hb7)
    have D4_w7 := Lib.hid (D4_W7.out.below hb7)
    have D5_w7 := Lib.hid (D5_W7.out.below hb7)
    have D6_w7 := Lib.hid (D6_W7.out.below hb7)
    have bww7 := Lib.hid (bwW7.trans (hb7.mono bwW7.size))
    have szw7 : W7.heap.size ≤ w7.heap.size := hb7.size
    clear Bx_W7 By3_W7 By4_W7 By5_W7 By6_W7 ltx_W7 lty3_W7 lty4_W7 lty5_W7 lty6_W7 D0_W7 D3_W7 D4_W7 D5_W7 D6_W7
    clear kpW7 bwW7 inW7 hb7
    clear C7
    obtain ⟨⟨c0, c1, c2, c3⟩, ⟨cf0, cf1, cf2, cf3⟩⟩ := blk4 (Below.refl _ w7) By5_w7.out (Nat.lt_succ_self _)
    obtain ⟨⟨d0, d1, d2, d3⟩, ⟨df0, df1, df2, df3⟩⟩ := blk4 (Below.refl _ w7) By6_w7.out (Nat.lt_succ_self _)
    have he3 : (r3.2 == r3.2) = true := by simp
    have he5 : (r5.2 == r5.2) = true := by simp
    go_wp2_with fail
    refine nameW fun W8 hW8 => ?_
    have kpW8 : Kp [w6.heap.size, w5.heap.size, w4.heap.size, w3.heap.size, w.heap.size] w7 W8 := by rw [hW8.out]; repeat (first | exact Kp.refl _ _ | refine Kp.alloc ?_ _ | refine Kp.setCell ?_ (by simp) _ _ | refine Kp.drew ?_ | refine Kp.drewN ?_ _)
    have bwW8 : Below w.heap.size w W8 := by rw [hW8.out]; repeat (first | exact bww7.out | refine Below.alloc ?_ (by (repeat (first | simp only [World.size_alloc] | simp only [size_set] | simp only [World.size_drew])); omega) _ | refine Below.setCell ?_ (by first | (dsimp only; omega) | omega) _ | refine Below.drew ?_ | refine below_drewN ?_ _)
    have szW8 : w7.heap.size ≤ W8.heap.size := kpW8.size
    have Bx_W8 : Hid (W8.heap[w.heap.size]? = some (.cells #[.slice sA0 d.sectors.length sc0, .slice pA0 d.pending.length pc0, .int .i64 d.left, .bool d.stopped] 25 (0, 0))) := by show _ = _; rw [hW8.out]; (repeat (first | simp only [heap_drew] | simp only [World.heap_drewN] | simp only [heap_alloc_if] | simp only [heap_set_if] | simp only [World.size_alloc] | simp only [size_set] | simp only [World.size_drew])); (repeat (first | rw [if_pos trivial] | rw [if_pos (by omega)] | rw [if_neg (by omega)])); exact Bx_w7.out
    have ltx_W8 : w.heap.size < W8.heap.size := lt_heap Bx_W8.out
    have By3_W8 : Hid (W8.heap[w3.heap.size]? = some (.cells #[.slice sA3 r3.1.sectors.length sc3, .slice pA3 r3.1.pending.length pc3, .int .i64 r3.1.left, .bool r3.1.stopped] 25 (0, 0))) := by show _ = _; rw [hW8.out]; (repeat (first | simp only [heap_drew] | simp only [World.heap_drewN] | simp only [heap_alloc_if] | simp only [heap_set_if] | simp only [World.size_alloc] | simp only [size_set] | simp only [World.size_drew])); (repeat (first | rw [if_pos trivial] | rw [if_pos (by omega)] | rw [if_neg (by omega)])); exact By3_w7.out
    have lty3_W8 : w3.heap.size < W8.heap.size := lt_heap By3_W8.out
    have By4_W8 : Hid (W8.heap[w4.heap.size]? = some (.cells #[.slice sA4 r3.1.sectors.length sc4, .slice pA4 r3.1.pending.length pc4, .int .i64 r3.1.left, .bool r3.1.stopped] 25 (0, 0))) := by show _ = _; rw [hW8.out]; (repeat (first | simp only [heap_drew] | simp only [World.heap_drewN] | simp only [heap_alloc_if] | simp only [heap_set_if] | simp only [World.size_alloc] | simp only [size_set] | simp only [World.size_drew])); (repeat (first | rw [if_pos trivial] | rw [if_pos (by omega)] | rw [if_neg (by omega)])); exact By4_w7.out
    have lty4_W8 : w4.heap.size < W8.heap.size := lt_heap By4_W8.out
    have By5_W8 : Hid (W8.heap[w5.heap.size]? = some (.cells #[.slice sA5 r5.1.sectors.length sc5, .slice pA5 r5.1.pending.length pc5, .int .i64 r5.1.left, .bool r5.1.stopped] 25 (0, 0))) := by show _ = _; rw [hW8.out]; (repeat (first | simp only [heap_drew] | simp only [World.heap_drewN] | simp only [heap_alloc_if] | simp only [heap_set_if] | simp only [World.size_alloc] | simp only [size_set] | simp only [World.size_drew])); (repeat (first | rw [if_pos trivial] | rw [if_pos (by omega)] | rw [if_neg (by omega)])); exact By5_w7.out
    have lty5_W8 : w5.heap.size < W8.heap.size := lt_heap By5_W8.out
    have By6_W8 : Hid (W8.heap[w6.heap.size]? = some (.cells #[.slice sA6 r5.1.sectors.length sc6, .slice pA6 r5.1.pending.length pc6, .int .i64 r5.1.left, .bool r5.1.stopped] 25 (0, 0))) := by show _ = _; rw [hW8.out]; (repeat (first | simp only [heap_drew] | simp only [World.heap_drewN] | simp only [heap_alloc_if] | simp only [heap_set_if] | simp only [World.size_alloc] | simp only [size_set] | simp only [World.size_drew])); (repeat (first | rw [if_pos trivial] | rw [if_pos (by omega)] | rw [if_neg (by omega)])); exact By6_w7.out
    have lty6_W8 : w6.heap.size < W8.heap.size := lt_heap By6_W8.out
    have inW8 : InW [w6.heap.size, w5.heap.size, w4.heap.size, w3.heap.size, w.heap.size] W8 := by intro b hb; simp at hb; omega
    have D0_W8 := Lib.hid ((D0_w7.out).kp kpW8)
    have D3_W8 := Lib.hid ((D3_w7.out).kp kpW8)
    have D4_W8 := Lib.hid ((D4_w7.out).kp kpW8)
    have D5_W8 := Lib.hid ((D5_w7.out).kp kpW8)
    have D6_W8 := Lib.hid ((D6_w7.out).kp kpW8)
    clear Bx_w7 By3_w7 By4_w7 By5_w7 By6_w7 ltx_w7 lty3_w7 lty4_w7 lty5_w7 lty6_w7 D0_w7 D3_w7 D4_w7 D5_w7 D6_w7 c0 c1 c2 c3 cf0 cf1 cf2 cf3 d0 d1 d2 d3 df0 df1 df2 df3
    have C8 := Lib.hid (same_any W8 _ _ r5.1 _ _ D5_W8.out D6_W8.out)
    refine C8.out.mono ?_
    rintro e w8 ⟨rfl, hb8⟩
    have Bx_w8 := Lib.hid ((hb8.block (w.heap.size) (by omega)).trans Bx_W8.out)
    have ltx_w8 : w.heap.size < w8.heap.size := lt_heap Bx_w8.out
    have By3_w8 := Lib.hid ((hb8.block (w3.heap.size) (by omega)).trans By3_W8.out)
    have lty3_w8 : w3.heap.size < w8.heap.size := lt_heap By3_w8.out
    have By4_w8 := Lib.hid ((hb8.block (w4.heap.size) (by omega)).trans By4_W8.out)
    have lty4_w8 : w4.heap.size < w8.heap.size := lt_heap By4_w8.out
    have By5_w8 := Lib.hid ((hb8.block (w5.heap.size) (by omega)).trans By5_W8.out)
    have lty5_w8 : w5.heap.size < w8.heap.size := lt_heap By5_w8.out
    have By6_w8 := Lib.hid ((hb8.block (w6.heap.size) (by omega)).trans By6_W8.out)
    have lty6_w8 : w6.heap.size < w8.heap.size := lt_heap By6_w8.out
    have D0_w8 := Lib.hid (D0_W8.out.below hb8)
    have D3_w8 := Lib.hid (D3_W8.out.below hb8)
    have D4_w8 := Lib.hid (D4_W8.out.below hb8)
    have D5_w8 := Lib.hid (D5_W8.out.below hb8)
    have D6_w8 := Lib.hid (D6_W8.out.below hb8)
    have bww8 := Lib.hid (bwW8.trans (hb8.mono bwW8.size))
    have szw8 : W8.heap.size ≤ w8.heap.size := hb8.size
    clear Bx_W8 By3_W8 By4_W8 By5_W8 By6_W8 ltx_W8 lty3_W8 lty4_W8 lty5_W8 lty6_W8 D0_W8 D3_W8 D4_W8 D5_W8 D6_W8
    clear kpW8 bwW8 inW8 hb8
    clear C8
    go_wp2_with fail
    go_ret
    exact ⟨rfl, bww8.out⟩
theorem conv_is {w : World} {M : Nat → Prop} {A : Option Addr} {n c : Nat} {bs : List UInt8} (h : IsBytes w M (.slice A n c) bs) : (convert 35 9 (.slice A n c)).run Try.prog w = .ok (.string ⟨bs.toArray⟩) w := by
  obtain ⟨A', c', e, _, _, h3⟩ := h
  cases e
  exact conv_bytes _ h3
set_option maxRecDepth 100000 in
set_option maxHeartbeats 2000000 in
theorem law4 (w : World) (d : DiskD) (v : Value) (h : IsDisk w (NB []) v d) (hL : Lens d) (x : Int) (b : List UInt8) (u : Value) (hb : IsBytes w (NB []) u b) : Calls Try.prog 4 #[v, .int .i64 x, u] w fun e w' => e = .returned (.bool true) ∧ Below w.heap.size w w' := by
  obtain ⟨sA0, sc0, pA0, pc0, rfl, -⟩ := h.parts
  have D0_w := Lib.hid h
  clear h
  have Y0_w := Lib.hid hb
  clear hb
  obtain ⟨bA, bc, rfl, hb1, hb2, -⟩ := Y0_w.out
  obtain ⟨r3, hr3⟩ : ∃ r, writeD d x b = r := ⟨_, rfl⟩
  obtain ⟨r5, hr5⟩ : ∃ r, readD d x = r := ⟨_, rfl⟩
  have HR3 := Lib.hid hr3
  have HR5 := Lib.hid hr5
  clear hr3 hr5
  go_enter Try.func4, Try.ntmps4
  go_wp2_with fail
  refine nameW fun W1 hW1 => ?_
  have kpW1 : Kp [w.heap.size] w W1 := by rw [hW1.out]; repeat (first | exact Kp.refl _ _ | refine Kp.alloc ?_ _ | refine Kp.setCell ?_ (by simp) _ _ | refine Kp.drew ?_ | refine Kp.drewN ?_ _)
  have bwW1 : Below w.heap.size w W1 := by rw [hW1.out]; repeat (first | exact Below.refl _ _ | refine Below.alloc ?_ (by (repeat (first | simp only [World.size_alloc] | simp only [size_set] | simp only [World.size_drew])); omega) _ | refine Below.setCell ?_ (by first | (dsimp only; omega) | omega) _ | refine Below.drew ?_ | refine below_drewN ?_ _)
  have szW1 : w.heap.size ≤ W1.heap.size := kpW1.size
  have Bx_W1 : Hid (W1.heap[w.heap.size]? = some (.cells #[.slice sA0 d.sectors.length sc0, .slice pA0 d.pending.length pc0, .int .i64 d.left, .bool d.stopped] 25 (0, 0))) := by show _ = _; rw [hW1.out]; (repeat (first | simp only [heap_drew] | simp only [World.heap_drewN] | simp only [heap_alloc_if] | simp only [heap_set_if] | simp only [World.size_alloc] | simp only [size_set] | simp only [World.size_drew])); (repeat (first | rw [if_pos trivial] | rw [if_pos (by omega)] | rw [if_neg (by omega)]))
  have ltx_W1 : w.heap.size < W1.heap.size := lt_heap Bx_W1.out
  have mkx : w.heap.size < W1.heap.size := ltx_W1
  have inW1 : InW [w.heap.size] W1 := by intro b hb; simp at hb; omega
  have D0_W1 := Lib.hid (((D0_w.out).box (by omega)).kp kpW1)
  have Y0_W1 := Lib.hid (((Y0_w.out).box (by omega)).kp kpW1)
  clear D0_w Y0_w
  have C1 := Lib.hid (sane_any W1)
  refine C1.out.mono ?_
  rintro e w1 ⟨rfl, hb1⟩
  have Bx_w1 := Lib.hid ((hb1.block (w.heap.size) (by omega)).trans Bx_W1.out)
  have ltx_w1 : w.heap.size < w1.heap.size := lt_heap Bx_w1.out
  have D0_w1 := Lib.hid (D0_W1.out.below hb1)
  have Y0_w1 := Lib.hid (Y0_W1.out.below hb1)
  have bww1 := Lib.hid (bwW1.trans (hb1.mono bwW1.size))
  have szw1 : W1.heap.size ≤ w1.heap.size := hb1.size
  clear Bx_W1 ltx_W1 D0_W1 Y0_W1
  clear kpW1 bwW1 inW1 hb1
  clear C1
  obtain ⟨⟨c0, c1, c2, c3⟩, ⟨cf0, cf1, cf2, cf3⟩⟩ := blk4 (Below.refl _ w1) Bx_w1.out (Nat.lt_succ_self _)
  go_wp2_with fail
  refine nameW fun W2 hW2 => ?_
  have kpW2 : Kp [w.heap.size] w1 W2 := by rw [hW2.out]; repeat (first | exact Kp.refl _ _ | refine Kp.alloc ?_ _ | refine Kp.setCell ?_ (by simp) _ _ | refine Kp.drew ?_ | refine Kp.drewN ?_ _)
  have bwW2 : Below w.heap.size w W2 := by rw [hW2.out]; repeat (first | exact bww1.out | refine Below.alloc ?_ (by (repeat (first | simp only [World.size_alloc] | simp only [size_set] | simp only [World.size_drew])); omega) _ | refine Below.setCell ?_ (by first | (dsimp only; omega) | omega) _ | refine Below.drew ?_ | refine below_drewN ?_ _)
  have szW2 : w1.heap.size ≤ W2.heap.size := kpW2.size
  have Bx_W2 : Hid (W2.heap[w.heap.size]? = some (.cells #[.slice sA0 d.sectors.length sc0, .slice pA0 d.pending.length pc0, .int .i64 d.left, .bool d.stopped] 25 (0, 0))) := by show _ = _; rw [hW2.out]; (repeat (first | simp only [heap_drew] | simp only [World.heap_drewN] | simp only [heap_alloc_if] | simp only [heap_set_if] | simp only [World.size_alloc] | simp only [size_set] | simp only [World.size_drew])); (repeat (first | rw [if_pos trivial] | rw [if_pos (by omega)] | rw [if_neg (by omega)])); exact Bx_w1.out
  have ltx_W2 : w.heap.size < W2.heap.size := lt_heap Bx_W2.out
  have inW2 : InW [w.heap.size] W2 := by intro b hb; simp at hb; omega
  have D0_W2 := Lib.hid ((D0_w1.out).kp kpW2)
  have Y0_W2 := Lib.hid ((Y0_w1.out).kp kpW2)
  clear Bx_w1 ltx_w1 D0_w1 Y0_w1 c0 c1 c2 c3 cf0 cf1 cf2 cf3
  have C2 := Lib.hid (few_any W2 (NB [w.heap.size]) d _ D0_W2.out hL)
  refine C2.out.mono ?_
  rintro e w2 ⟨fb, rfl, hsm, hb2⟩
  have HSM := Lib.hid hsm
  clear hsm
  have Bx_w2 := Lib.hid ((hb2.block (w.heap.size) (by omega)).trans Bx_W2.out)
  have ltx_w2 : w.heap.size < w2.heap.size := lt_heap Bx_w2.out
  have D0_w2 := Lib.hid (D0_W2.out.below hb2)
  have Y0_w2 := Lib.hid (Y0_W2.out.below hb2)
  have bww2 := Lib.hid (bwW2.trans (hb2.mono bwW2.size))
  have szw2 : W2.heap.size ≤ w2.heap.size := hb2.size
  clear Bx_W2 ltx_W2 D0_W2 Y0_W2
  clear kpW2 bwW2 inW2 hb2
  clear C2
  cases fb with
  | false =>
    go_wp2_with fail
    go_ret
    exact ⟨rfl, bww2.out⟩
  | true =>
    by_cases hlong : 1000 < b.length
    · have hlong' : (1000 : Int) < (b.length : Int) := by omega
      go_wp2_with fail
      go_ret
      exact ⟨rfl, bww2.out⟩
    have hshort : ¬ (1000 : Int) < (b.length : Int) := by omega
    obtain ⟨⟨c0, c1, c2, c3⟩, ⟨cf0, cf1, cf2, cf3⟩⟩ := blk4 (Below.refl _ w2) Bx_w2.out (Nat.lt_succ_self _)
    go_wp2_with fail
    refine nameW fun W3 hW3 => ?_
    have kpW3 : Kp [w.heap.size] w2 W3 := by rw [hW3.out]; repeat (first | exact Kp.refl _ _ | refine Kp.alloc ?_ _ | refine Kp.setCell ?_ (by simp) _ _ | refine Kp.drew ?_ | refine Kp.drewN ?_ _)
    have bwW3 : Below w.heap.size w W3 := by rw [hW3.out]; repeat (first | exact bww2.out | refine Below.alloc ?_ (by (repeat (first | simp only [World.size_alloc] | simp only [size_set] | simp only [World.size_drew])); omega) _ | refine Below.setCell ?_ (by first | (dsimp only; omega) | omega) _ | refine Below.drew ?_ | refine below_drewN ?_ _)
    have szW3 : w2.heap.size ≤ W3.heap.size := kpW3.size
    have Bx_W3 : Hid (W3.heap[w.heap.size]? = some (.cells #[.slice sA0 d.sectors.length sc0, .slice pA0 d.pending.length pc0, .int .i64 d.left, .bool d.stopped] 25 (0, 0))) := by show _ = _; rw [hW3.out]; (repeat (first | simp only [heap_drew] | simp only [World.heap_drewN] | simp only [heap_alloc_if] | simp only [heap_set_if] | simp only [World.size_alloc] | simp only [size_set] | simp only [World.size_drew])); (repeat (first | rw [if_pos trivial] | rw [if_pos (by omega)] | rw [if_neg (by omega)])); exact Bx_w2.out
    have ltx_W3 : w.heap.size < W3.heap.size := lt_heap Bx_W3.out
    have inW3 : InW [w.heap.size] W3 := by intro b hb; simp at hb; omega
    have D0_W3 := Lib.hid ((D0_w2.out).kp kpW3)
    have Y0_W3 := Lib.hid ((Y0_w2.out).kp kpW3)
    clear Bx_w2 ltx_w2 D0_w2 Y0_w2 c0 c1 c2 c3 cf0 cf1 cf2 cf3
    have C3 := Lib.hid (write_l [w.heap.size] W3 inW3 d _ D0_W3.out x b _ Y0_W3.out)
    rw [HR3.out] at C3
    refine C3.out.mono ?_
    rintro e w3 ⟨v3, rfl, hD3, hb3⟩
    obtain ⟨sA3, sc3, pA3, pc3, rfl, -⟩ := hD3.parts
    have Bx_w3 := Lib.hid ((hb3.block (w.heap.size) (by omega)).trans Bx_W3.out)
    have ltx_w3 : w.heap.size < w3.heap.size := lt_heap Bx_w3.out
    have D0_w3 := Lib.hid (D0_W3.out.below hb3)
    have Y0_w3 := Lib.hid (Y0_W3.out.below hb3)
    have bww3 := Lib.hid (bwW3.trans (hb3.mono bwW3.size))
    have szw3 : W3.heap.size ≤ w3.heap.size := hb3.size
    clear Bx_W3 ltx_W3 D0_W3 Y0_W3
    clear kpW3 bwW3 inW3 hb3
    have D3_w3 := Lib.hid hD3
    clear hD3 C3
    obtain ⟨⟨c0, c1, c2, c3⟩, ⟨cf0, cf1, cf2, cf3⟩⟩ := blk4 (Below.refl _ w3) Bx_w3.out (Nat.lt_succ_self _)
    go_wp2_with fail
    refine nameW fun W4 hW4 => ?_
    have kpW4 : Kp [w3.heap.size, w.heap.size] w3 W4 := by rw [hW4.out]; repeat (first | exact Kp.refl _ _ | refine Kp.alloc ?_ _ | refine Kp.setCell ?_ (by simp) _ _ | refine Kp.drew ?_ | refine Kp.drewN ?_ _)
    have bwW4 : Below w.heap.size w W4 := by rw [hW4.out]; repeat (first | exact bww3.out | refine Below.alloc ?_ (by (repeat (first | simp only [World.size_alloc] | simp only [size_set] | simp only [World.size_drew])); omega) _ | refine Below.setCell ?_ (by first | (dsimp only; omega) | omega) _ | refine Below.drew ?_ | refine below_drewN ?_ _)
    have szW4 : w3.heap.size ≤ W4.heap.size := kpW4.size
    have By3_W4 : Hid (W4.heap[w3.heap.size]? = some (.cells #[.slice sA3 r3.1.sectors.length sc3, .slice pA3 r3.1.pending.length pc3, .int .i64 r3.1.left, .bool r3.1.stopped] 25 (0, 0))) := by show _ = _; rw [hW4.out]; (repeat (first | simp only [heap_drew] | simp only [World.heap_drewN] | simp only [heap_alloc_if] | simp only [heap_set_if] | simp only [World.size_alloc] | simp only [size_set] | simp only [World.size_drew])); (repeat (first | rw [if_pos trivial] | rw [if_pos (by omega)] | rw [if_neg (by omega)]))
    have lty3_W4 : w3.heap.size < W4.heap.size := lt_heap By3_W4.out
    have mky3 : w3.heap.size < W4.heap.size := lty3_W4
    have Bx_W4 : Hid (W4.heap[w.heap.size]? = some (.cells #[.slice sA0 d.sectors.length sc0, .slice pA0 d.pending.length pc0, .int .i64 d.left, .bool d.stopped] 25 (0, 0))) := by show _ = _; rw [hW4.out]; (repeat (first | simp only [heap_drew] | simp only [World.heap_drewN] | simp only [heap_alloc_if] | simp only [heap_set_if] | simp only [World.size_alloc] | simp only [size_set] | simp only [World.size_drew])); (repeat (first | rw [if_pos trivial] | rw [if_pos (by omega)] | rw [if_neg (by omega)])); exact Bx_w3.out
    have ltx_W4 : w.heap.size < W4.heap.size := lt_heap Bx_W4.out
    have inW4 : InW [w3.heap.size, w.heap.size] W4 := by intro b hb; simp at hb; omega
    have D0_W4 := Lib.hid (((D0_w3.out).box (by omega)).kp kpW4)
    have Y0_W4 := Lib.hid (((Y0_w3.out).box (by omega)).kp kpW4)
    have D3_W4 := Lib.hid (((D3_w3.out).box (by omega)).kp kpW4)
    clear Bx_w3 ltx_w3 D0_w3 Y0_w3 D3_w3 c0 c1 c2 c3 cf0 cf1 cf2 cf3
    have C4 := Lib.hid (refWrite_l [w3.heap.size, w.heap.size] W4 inW4 d _ D0_W4.out x b _ Y0_W4.out)
    rw [HR3.out] at C4
    refine C4.out.mono ?_
    rintro e w4 ⟨v4, rfl, hD4, hb4⟩
    obtain ⟨sA4, sc4, pA4, pc4, rfl, -⟩ := hD4.parts
    have Bx_w4 := Lib.hid ((hb4.block (w.heap.size) (by omega)).trans Bx_W4.out)
    have ltx_w4 : w.heap.size < w4.heap.size := lt_heap Bx_w4.out
    have By3_w4 := Lib.hid ((hb4.block (w3.heap.size) (by omega)).trans By3_W4.out)
    have lty3_w4 : w3.heap.size < w4.heap.size := lt_heap By3_w4.out
    have D0_w4 := Lib.hid (D0_W4.out.below hb4)
    have Y0_w4 := Lib.hid (Y0_W4.out.below hb4)
    have D3_w4 := Lib.hid (D3_W4.out.below hb4)
    have bww4 := Lib.hid (bwW4.trans (hb4.mono bwW4.size))
    have szw4 : W4.heap.size ≤ w4.heap.size := hb4.size
    clear Bx_W4 By3_W4 ltx_W4 lty3_W4 D0_W4 Y0_W4 D3_W4
    clear kpW4 bwW4 inW4 hb4
    have D4_w4 := Lib.hid hD4
    clear hD4 C4
    obtain ⟨⟨c0, c1, c2, c3⟩, ⟨cf0, cf1, cf2, cf3⟩⟩ := blk4 (Below.refl _ w4) Bx_w4.out (Nat.lt_succ_self _)
    go_wp2_with fail
    refine nameW fun W5 hW5 => ?_
    have kpW5 : Kp [w4.heap.size, w3.heap.size, w.heap.size] w4 W5 := by rw [hW5.out]; repeat (first | exact Kp.refl _ _ | refine Kp.alloc ?_ _ | refine Kp.setCell ?_ (by simp) _ _ | refine Kp.drew ?_ | refine Kp.drewN ?_ _)
    have bwW5 : Below w.heap.size w W5 := by rw [hW5.out]; repeat (first | exact bww4.out | refine Below.alloc ?_ (by (repeat (first | simp only [World.size_alloc] | simp only [size_set] | simp only [World.size_drew])); omega) _ | refine Below.setCell ?_ (by first | (dsimp only; omega) | omega) _ | refine Below.drew ?_ | refine below_drewN ?_ _)
    have szW5 : w4.heap.size ≤ W5.heap.size := kpW5.size
    have By4_W5 : Hid (W5.heap[w4.heap.size]? = some (.cells #[.slice sA4 r3.1.sectors.length sc4, .slice pA4 r3.1.pending.length pc4, .int .i64 r3.1.left, .bool r3.1.stopped] 25 (0, 0))) := by show _ = _; rw [hW5.out]; (repeat (first | simp only [heap_drew] | simp only [World.heap_drewN] | simp only [heap_alloc_if] | simp only [heap_set_if] | simp only [World.size_alloc] | simp only [size_set] | simp only [World.size_drew])); (repeat (first | rw [if_pos trivial] | rw [if_pos (by omega)] | rw [if_neg (by omega)]))
    have lty4_W5 : w4.heap.size < W5.heap.size := lt_heap By4_W5.out
    have mky4 : w4.heap.size < W5.heap.size := lty4_W5
    have Bx_W5 : Hid (W5.heap[w.heap.size]? = some (.cells #[.slice sA0 d.sectors.length sc0, .slice pA0 d.pending.length pc0, .int .i64 d.left, .bool d.stopped] 25 (0, 0))) := by show _ = _; rw [hW5.out]; (repeat (first | simp only [heap_drew] | simp only [World.heap_drewN] | simp only [heap_alloc_if] | simp only [heap_set_if] | simp only [World.size_alloc] | simp only [size_set] | simp only [World.size_drew])); (repeat (first | rw [if_pos trivial] | rw [if_pos (by omega)] | rw [if_neg (by omega)])); exact Bx_w4.out
    have ltx_W5 : w.heap.size < W5.heap.size := lt_heap Bx_W5.out
    have By3_W5 : Hid (W5.heap[w3.heap.size]? = some (.cells #[.slice sA3 r3.1.sectors.length sc3, .slice pA3 r3.1.pending.length pc3, .int .i64 r3.1.left, .bool r3.1.stopped] 25 (0, 0))) := by show _ = _; rw [hW5.out]; (repeat (first | simp only [heap_drew] | simp only [World.heap_drewN] | simp only [heap_alloc_if] | simp only [heap_set_if] | simp only [World.size_alloc] | simp only [size_set] | simp only [World.size_drew])); (repeat (first | rw [if_pos trivial] | rw [if_pos (by omega)] | rw [if_neg (by omega)])); exact By3_w4.out
    have lty3_W5 : w3.heap.size < W5.heap.size := lt_heap By3_W5.out
    have inW5 : InW [w4.heap.size, w3.heap.size, w.heap.size] W5 := by intro b hb; simp at hb; omega
    have D0_W5 := Lib.hid (((D0_w4.out).box (by omega)).kp kpW5)
    have Y0_W5 := Lib.hid (((Y0_w4.out).box (by omega)).kp kpW5)
    have D3_W5 := Lib.hid (((D3_w4.out).box (by omega)).kp kpW5)
    have D4_W5 := Lib.hid (((D4_w4.out).box (by omega)).kp kpW5)
    clear Bx_w4 By3_w4 ltx_w4 lty3_w4 D0_w4 Y0_w4 D3_w4 D4_w4 c0 c1 c2 c3 cf0 cf1 cf2 cf3
    have C5 := Lib.hid (read_l [w4.heap.size, w3.heap.size, w.heap.size] W5 d _ D0_W5.out x)
    rw [HR5.out] at C5
    refine C5.out.mono ?_
    rintro e w5 ⟨v5, rfl, ⟨A5, c5, rfl, hD5⟩, hb5⟩
    have Bx_w5 := Lib.hid ((hb5.block (w.heap.size) (by omega)).trans Bx_W5.out)
    have ltx_w5 : w.heap.size < w5.heap.size := lt_heap Bx_w5.out
    have By3_w5 := Lib.hid ((hb5.block (w3.heap.size) (by omega)).trans By3_W5.out)
    have lty3_w5 : w3.heap.size < w5.heap.size := lt_heap By3_w5.out
    have By4_w5 := Lib.hid ((hb5.block (w4.heap.size) (by omega)).trans By4_W5.out)
    have lty4_w5 : w4.heap.size < w5.heap.size := lt_heap By4_w5.out
    have D0_w5 := Lib.hid (D0_W5.out.below hb5)
    have Y0_w5 := Lib.hid (Y0_W5.out.below hb5)
    have D3_w5 := Lib.hid (D3_W5.out.below hb5)
    have D4_w5 := Lib.hid (D4_W5.out.below hb5)
    have bww5 := Lib.hid (bwW5.trans (hb5.mono bwW5.size))
    have szw5 : W5.heap.size ≤ w5.heap.size := hb5.size
    clear Bx_W5 By3_W5 By4_W5 ltx_W5 lty3_W5 lty4_W5 D0_W5 Y0_W5 D3_W5 D4_W5
    clear kpW5 bwW5 inW5 hb5
    have Y5_w5 : Hid (IsBytes w5 (NB [w4.heap.size, w3.heap.size, w.heap.size]) (.slice A5 r5.1.length c5) r5.1) := ⟨A5, c5, rfl, hD5⟩
    clear hD5 C5
    obtain ⟨⟨c0, c1, c2, c3⟩, ⟨cf0, cf1, cf2, cf3⟩⟩ := blk4 (Below.refl _ w5) Bx_w5.out (Nat.lt_succ_self _)
    go_wp2_with fail
    refine nameW fun W6 hW6 => ?_
    have kpW6 : Kp [w4.heap.size, w3.heap.size, w.heap.size] w5 W6 := by rw [hW6.out]; repeat (first | exact Kp.refl _ _ | refine Kp.alloc ?_ _ | refine Kp.setCell ?_ (by simp) _ _ | refine Kp.drew ?_ | refine Kp.drewN ?_ _)
    have bwW6 : Below w.heap.size w W6 := by rw [hW6.out]; repeat (first | exact bww5.out | refine Below.alloc ?_ (by (repeat (first | simp only [World.size_alloc] | simp only [size_set] | simp only [World.size_drew])); omega) _ | refine Below.setCell ?_ (by first | (dsimp only; omega) | omega) _ | refine Below.drew ?_ | refine below_drewN ?_ _)
    have szW6 : w5.heap.size ≤ W6.heap.size := kpW6.size
    have Bx_W6 : Hid (W6.heap[w.heap.size]? = some (.cells #[.slice sA0 d.sectors.length sc0, .slice pA0 d.pending.length pc0, .int .i64 d.left, .bool d.stopped] 25 (0, 0))) := by show _ = _; rw [hW6.out]; (repeat (first | simp only [heap_drew] | simp only [World.heap_drewN] | simp only [heap_alloc_if] | simp only [heap_set_if] | simp only [World.size_alloc] | simp only [size_set] | simp only [World.size_drew])); (repeat (first | rw [if_pos trivial] | rw [if_pos (by omega)] | rw [if_neg (by omega)])); exact Bx_w5.out
    have ltx_W6 : w.heap.size < W6.heap.size := lt_heap Bx_W6.out
    have By3_W6 : Hid (W6.heap[w3.heap.size]? = some (.cells #[.slice sA3 r3.1.sectors.length sc3, .slice pA3 r3.1.pending.length pc3, .int .i64 r3.1.left, .bool r3.1.stopped] 25 (0, 0))) := by show _ = _; rw [hW6.out]; (repeat (first | simp only [heap_drew] | simp only [World.heap_drewN] | simp only [heap_alloc_if] | simp only [heap_set_if] | simp only [World.size_alloc] | simp only [size_set] | simp only [World.size_drew])); (repeat (first | rw [if_pos trivial] | rw [if_pos (by omega)] | rw [if_neg (by omega)])); exact By3_w5.out
    have lty3_W6 : w3.heap.size < W6.heap.size := lt_heap By3_W6.out
    have By4_W6 : Hid (W6.heap[w4.heap.size]? = some (.cells #[.slice sA4 r3.1.sectors.length sc4, .slice pA4 r3.1.pending.length pc4, .int .i64 r3.1.left, .bool r3.1.stopped] 25 (0, 0))) := by show _ = _; rw [hW6.out]; (repeat (first | simp only [heap_drew] | simp only [World.heap_drewN] | simp only [heap_alloc_if] | simp only [heap_set_if] | simp only [World.size_alloc] | simp only [size_set] | simp only [World.size_drew])); (repeat (first | rw [if_pos trivial] | rw [if_pos (by omega)] | rw [if_neg (by omega)])); exact By4_w5.out
    have lty4_W6 : w4.heap.size < W6.heap.size := lt_heap By4_W6.out
    have inW6 : InW [w4.heap.size, w3.heap.size, w.heap.size] W6 := by intro b hb; simp at hb; omega
    have D0_W6 := Lib.hid ((D0_w5.out).kp kpW6)
    have Y0_W6 := Lib.hid ((Y0_w5.out).kp kpW6)
    have D3_W6 := Lib.hid ((D3_w5.out).kp kpW6)
    have D4_W6 := Lib.hid ((D4_w5.out).kp kpW6)
    have Y5_W6 := Lib.hid ((Y5_w5.out).kp kpW6)
    clear Bx_w5 By3_w5 By4_w5 ltx_w5 lty3_w5 lty4_w5 D0_w5 Y0_w5 D3_w5 D4_w5 Y5_w5 c0 c1 c2 c3 cf0 cf1 cf2 cf3
    have C6 := Lib.hid (refRead_l [w4.heap.size, w3.heap.size, w.heap.size] W6 d _ D0_W6.out x)
    rw [HR5.out] at C6
    refine C6.out.mono ?_
    rintro e w6 ⟨v6, rfl, ⟨A6, c6, rfl, hD6⟩, hb6⟩
    have Bx_w6 := Lib.hid ((hb6.block (w.heap.size) (by omega)).trans Bx_W6.out)
    have ltx_w6 : w.heap.size < w6.heap.size := lt_heap Bx_w6.out
    have By3_w6 := Lib.hid ((hb6.block (w3.heap.size) (by omega)).trans By3_W6.out)
    have lty3_w6 : w3.heap.size < w6.heap.size := lt_heap By3_w6.out
    have By4_w6 := Lib.hid ((hb6.block (w4.heap.size) (by omega)).trans By4_W6.out)
    have lty4_w6 : w4.heap.size < w6.heap.size := lt_heap By4_w6.out
    have D0_w6 := Lib.hid (D0_W6.out.below hb6)
    have Y0_w6 := Lib.hid (Y0_W6.out.below hb6)
    have D3_w6 := Lib.hid (D3_W6.out.below hb6)
    have D4_w6 := Lib.hid (D4_W6.out.below hb6)
    have Y5_w6 := Lib.hid (Y5_W6.out.below hb6)
    have bww6 := Lib.hid (bwW6.trans (hb6.mono bwW6.size))
    have szw6 : W6.heap.size ≤ w6.heap.size := hb6.size
    clear Bx_W6 By3_W6 By4_W6 ltx_W6 lty3_W6 lty4_W6 D0_W6 Y0_W6 D3_W6 D4_W6 Y5_W6
    clear kpW6 bwW6 inW6 hb6
    have Y6_w6 : Hid (IsBytes w6 (NB [w4.heap.size, w3.heap.size, w.heap.size]) (.slice A6 r5.1.length c6) r5.1) := ⟨A6, c6, rfl, hD6⟩
    clear hD6 C6
    obtain ⟨⟨c0, c1, c2, c3⟩, ⟨cf0, cf1, cf2, cf3⟩⟩ := blk4 (Below.refl _ w6) By3_w6.out (Nat.lt_succ_self _)
    obtain ⟨⟨d0, d1, d2, d3⟩, ⟨df0, df1, df2, df3⟩⟩ := blk4 (Below.refl _ w6) By4_w6.out (Nat.lt_succ_self _)
    go_wp2_with fail
    refine nameW fun W7 hW7 => ?_
    have kpW7 : Kp [w4.heap.size, w3.heap.size, w.heap.size] w6 W7 := by rw [hW7.out]; repeat (first | exact Kp.refl _ _ | refine Kp.alloc ?_ _ | refine Kp.setCell ?_ (by simp) _ _ | refine Kp.drew ?_ | refine Kp.drewN ?_ _)
    have bwW7 : Below w.heap.size w W7 := by rw [hW7.out]; repeat (first | exact bww6.out | refine Below.alloc ?_ (by (repeat (first | simp only [World.size_alloc] | simp only [size_set] | simp only [World.size_drew])); omega) _ | refine Below.setCell ?_ (by first | (dsimp only; omega) | omega) _ | refine Below.drew ?_ | refine below_drewN ?_ _)
    have szW7 : w6.heap.size ≤ W7.heap.size := kpW7.size
    have Bx_W7 : Hid (W7.heap[w.heap.size]? = some (.cells #[.slice sA0 d.sectors.length sc0, .slice pA0 d.pending.length pc0, .int .i64 d.left, .bool d.stopped] 25 (0, 0))) := by show _ = _; rw [hW7.out]; (repeat (first | simp only [heap_drew] | simp only [World.heap_drewN] | simp only [heap_alloc_if] | simp only [heap_set_if] | simp only [World.size_alloc] | simp only [size_set] | simp only [World.size_drew])); (repeat (first | rw [if_pos trivial] | rw [if_pos (by omega)] | rw [if_neg (by omega)])); exact Bx_w6.out
    have ltx_W7 : w.heap.size < W7.heap.size := lt_heap Bx_W7.out
    have By3_W7 : Hid (W7.heap[w3.heap.size]? = some (.cells #[.slice sA3 r3.1.sectors.length sc3, .slice pA3 r3.1.pending.length pc3, .int .i64 r3.1.left, .bool r3.1.stopped] 25 (0, 0))) := by show _ = _; rw [hW7.out]; (repeat (first | simp only [heap_drew] | simp only [World.heap_drewN] | simp only [heap_alloc_if] | simp only [heap_set_if] | simp only [World.size_alloc] | simp only [size_set] | simp only [World.size_drew])); (repeat (first | rw [if_pos trivial] | rw [if_pos (by omega)] | rw [if_neg (by omega)])); exact By3_w6.out
    have lty3_W7 : w3.heap.size < W7.heap.size := lt_heap By3_W7.out
    have By4_W7 : Hid (W7.heap[w4.heap.size]? = some (.cells #[.slice sA4 r3.1.sectors.length sc4, .slice pA4 r3.1.pending.length pc4, .int .i64 r3.1.left, .bool r3.1.stopped] 25 (0, 0))) := by show _ = _; rw [hW7.out]; (repeat (first | simp only [heap_drew] | simp only [World.heap_drewN] | simp only [heap_alloc_if] | simp only [heap_set_if] | simp only [World.size_alloc] | simp only [size_set] | simp only [World.size_drew])); (repeat (first | rw [if_pos trivial] | rw [if_pos (by omega)] | rw [if_neg (by omega)])); exact By4_w6.out
    have lty4_W7 : w4.heap.size < W7.heap.size := lt_heap By4_W7.out
    have inW7 : InW [w4.heap.size, w3.heap.size, w.heap.size] W7 := by intro b hb; simp at hb; omega
    have D0_W7 := Lib.hid ((D0_w6.out).kp kpW7)
    have Y0_W7 := Lib.hid ((Y0_w6.out).kp kpW7)
    have D3_W7 := Lib.hid ((D3_w6.out).kp kpW7)
    have D4_W7 := Lib.hid ((D4_w6.out).kp kpW7)
    have Y5_W7 := Lib.hid ((Y5_w6.out).kp kpW7)
    have Y6_W7 := Lib.hid ((Y6_w6.out).kp kpW7)
    clear Bx_w6 By3_w6 By4_w6 ltx_w6 lty3_w6 lty4_w6 D0_w6 Y0_w6 D3_w6 D4_w6 Y5_w6 Y6_w6 c0 c1 c2 c3 cf0 cf1 cf2 cf3 d0 d1 d2 d3 df0 df1 df2 df3
    have C7 := Lib.hid (same_any W7 _ _ r3.1 _ _ D3_W7.out D4_W7.out)
    refine C7.out.mono ?_
    rintro e w7 ⟨rfl, hb7⟩
    have Bx_w7 := Lib.hid ((hb7.block (w.heap.size) (by omega)).trans Bx_W7.out)
    have ltx_w7 : w.heap.size < w7.heap.size := lt_heap Bx_w7.out
    have By3_w7 := Lib.hid ((hb7.block (w3.heap.size) (by omega)).trans By3_W7.out)
    have lty3_w7 : w3.heap.size < w7.heap.size := lt_heap By3_w7.out
    have By4_w7 := Lib.hid ((hb7.block (w4.heap.size) (by omega)).trans By4_W7.out)
    have lty4_w7 : w4.heap.size < w7.heap.size := lt_heap By4_w7.out
    have D0_w7 := Lib.hid (D0_W7.out.below hb7)
    have Y0_w7 := Lib.hid (Y0_W7.out.below hb7)
    have D3_w7 := Lib.hid (D3_W7.out.below hb7)
    have D4_w7 := Lib.hid (D4_W7.out.below hb7)
    have Y5_w7 := Lib.hid (Y5_W7.out.below hb7)
    have Y6_w7 := Lib.hid (Y6_W7.out.below hb7)
    have bww7 := Lib.hid (bwW7.trans (hb7.mono bwW7.size))
    have szw7 : W7.heap.size ≤ w7.heap.size := hb7.size
    clear Bx_W7 By3_W7 By4_W7 ltx_W7 lty3_W7 lty4_W7 D0_W7 Y0_W7 D3_W7 D4_W7 Y5_W7 Y6_W7
    clear kpW7 bwW7 inW7 hb7
    clear C7
    have he3 : (r3.2 == r3.2) = true := by simp
    have he5 : (r5.2 == r5.2) = true := by simp
    have cv5 := conv_is Y5_w7.out
    have cv6 := conv_is Y6_w7.out
    go_wp2_with fail
    go_ret
    exact ⟨rfl, bww7.out⟩
end Go.Proofs.Ytjmafnkknohinaa
