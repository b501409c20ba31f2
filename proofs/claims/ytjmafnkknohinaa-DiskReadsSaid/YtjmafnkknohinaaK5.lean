import Derived.Test.YtjmafnkknohinaaK4
import Derived.Test.YtjmafnkknohinaaL1
import Derived.Deep.DeepCutAuto
namespace Go.Proofs.Ytjmafnkknohinaa
open Go.RowKit Go.Shelf Go.Deep

set_option maxRecDepth 100000 in
set_option maxHeartbeats 2000000 in
theorem law7_long1 (w : World) (d : DiskD) (v : Value) (h : IsDisk w (NB []) v d) (hL : Lens d) (x y : Int) (b : List UInt8) (u : Value) (hb : IsBytes w (NB []) u b) (c : List UInt8) (t : Value) (hc : IsBytes w (NB []) t c) (hl : 128 < b.length) : Calls Try.prog 7 #[v, .int .i64 x, .int .i64 y, u, t] w fun e w' => e = .returned (.bool true) ∧ Below w.heap.size w w' := by
  obtain ⟨sA0, sc0, pA0, pc0, rfl, hsA1, hsA2, -⟩ := h.parts
  have D0_w := Lib.hid h
  clear h
  have Y0_w := Lib.hid hb
  clear hb
  have Z0_w := Lib.hid hc
  clear hc
  obtain ⟨bA, bc, rfl, hb1, hb2, -⟩ := Y0_w.out
  obtain ⟨cA, cc, rfl, hc1, hc2, -⟩ := Z0_w.out
  go_enter Try.func7, Try.ntmps7
  go_wp2_with fail
  refine nameW fun W1 hW1 => ?_
  have kpW1 : Kp [w.heap.size] w W1 := by rw [hW1.out]; repeat (first | exact Kp.refl _ _ | refine Kp.alloc ?_ _ | refine Kp.setCell ?_ (by simp) _ _ | refine Kp.drew ?_ | refine Kp.drewN ?_ _)
  have bwW1 : Below w.heap.size w W1 := by rw [hW1.out]; repeat (first | exact Below.refl _ _ | refine Below.alloc ?_ (by (repeat (first | simp only [World.size_alloc] | simp only [size_set] | simp only [World.size_drew])); omega) _ | refine Below.setCell ?_ (by first | (dsimp only; omega) | omega) _ | refine Below.drew ?_ | refine below_drewN ?_ _)
  have szW1 : w.heap.size ≤ W1.heap.size := kpW1.size
  have Bx_W1 : Hid (W1.heap[w.heap.size]? = some (.cells #[.slice sA0 d.sectors.length sc0, .slice pA0 d.pending.length pc0, .int .i64 d.left, .bool d.stopped] 25 (0, 0))) := by show _ = _; rw [hW1.out]; (repeat (first | simp only [heap_drew] | simp only [World.heap_drewN] | simp only [heap_alloc_if] | simp only [heap_set_if] | simp only [World.size_alloc] | simp only [size_set] | simp only [World.size_drew])); (repeat (first | rw [if_pos trivial] | rw [if_pos (by omega)] | rw [if_neg (by omega)]))
  have ltx_W1 : w.heap.size < W1.heap.size := lt_heap Bx_W1.out
  have mkx : w.heap.size < W1.heap.size := ltx_W1
  have inW1 : InW [w.heap.size] W1 := by intro b hb; simp at hb; omega
  have D0_W1 := Lib.hid (((D0_w.out).box (by omega)).kp kpW1)
  have Y0_W1 := Lib.hid (((Y0_w.out).box (by omega)).kp kpW1)
  have Z0_W1 := Lib.hid (((Z0_w.out).box (by omega)).kp kpW1)
  clear D0_w Y0_w Z0_w
  have C1 := Lib.hid (sane_any W1)
  refine C1.out.mono ?_
  rintro e w1 ⟨rfl, hb1⟩
  have Bx_w1 := Lib.hid ((hb1.block (w.heap.size) (by omega)).trans Bx_W1.out)
  have ltx_w1 : w.heap.size < w1.heap.size := lt_heap Bx_w1.out
  have D0_w1 := Lib.hid (D0_W1.out.below hb1)
  have Y0_w1 := Lib.hid (Y0_W1.out.below hb1)
  have Z0_w1 := Lib.hid (Z0_W1.out.below hb1)
  have bww1 := Lib.hid (bwW1.trans (hb1.mono bwW1.size))
  have szw1 : W1.heap.size ≤ w1.heap.size := hb1.size
  clear Bx_W1 ltx_W1 D0_W1 Y0_W1 Z0_W1
  clear kpW1 bwW1 inW1 hb1
  clear C1
  obtain ⟨⟨c0, c1, c2, c3⟩, ⟨cf0, cf1, cf2, cf3⟩⟩ := blk4 (Below.refl _ w1) Bx_w1.out (Nat.lt_succ_self _)
  go_wp2_with fail
  refine nameW fun W2 hW2 => ?_
  have kpW2 : Kp [w.heap.size] w1 W2 := by rw [hW2.out]; repeat (first | exact Kp.refl _ _ | refine Kp.alloc ?_ _ | refine Kp.setCell ?_ (by simp) _ _ | refine Kp.drew ?_ | refine Kp.drewN ?_ _)
  have bwW2 : Below w.heap.size w W2 := by rw [hW2.out]; repeat (first | exact bww1.out | refine Below.alloc ?_ (by (repeat (first | simp only [World.size_alloc] | simp only [size_set] | simp only [World.size_drew])); omega) _ | refine Below.setCell ?_ (by first | (dsimp only; omega) | omega) _ | refine Below.drew ?_ | refine below_drewN ?_ _)
  have szW2 : w1.heap.size ≤ W2.heap.size := kpW2.size
  have Bx_W2 : Hid (W2.heap[w.heap.size]? = some (.cells #[.slice sA0 d.sectors.length sc0, .slice pA0 d.pending.length pc0, .int .i64 d.left, .bool d.stopped] 25 (0, 0))) := by show _ = _; rw [hW2.out]; (repeat (first | simp only [heap_drew] | simp only [World.heap_drewN] | simp only [heap_alloc_if] | simp only [heap_set_if] | simp only [World.size_alloc] | simp only [size_set] | simp only [World.size_drew])); (repeat (first | rw [if_pos trivial] | rw [if_pos (by omega)] | rw [if_neg (by omega)])); exact Bx_w1.out
  have ltx_W2 : w.heap.size < W2.heap.size := lt_heap Bx_W2.out
  have inW2 : InW [w.heap.size] W2 := by intro b hb; simp at hb; omega
  have D0_W2 := Lib.hid ((D0_w1.out).kp kpW2)
  have Y0_W2 := Lib.hid ((Y0_w1.out).kp kpW2)
  have Z0_W2 := Lib.hid ((Z0_w1.out).kp kpW2)
  clear Bx_w1 ltx_w1 D0_w1 Y0_w1 Z0_w1 c0 c1 c2 c3 cf0 cf1 cf2 cf3
  have C2 := Lib.hid (few_any W2 (NB [w.heap.size]) d _ D0_W2.out hL)
  refine C2.out.mono ?_
  rintro e w2 ⟨fb, rfl, hsm, hb2⟩
  have HSM := Lib.hid hsm
  clear hsm
  have Bx_w2 := Lib.hid ((hb2.block (w.heap.size) (by omega)).trans Bx_W2.out)
  have ltx_w2 : w.heap.size < w2.heap.size := lt_heap Bx_w2.out
  have D0_w2 := Lib.hid (D0_W2.out.below hb2)
  have Y0_w2 := Lib.hid (Y0_W2.out.below hb2)
  have Z0_w2 := Lib.hid (Z0_W2.out.below hb2)
  have bww2 := Lib.hid (bwW2.trans (hb2.mono bwW2.size))
  have szw2 : W2.heap.size ≤ w2.heap.size := hb2.size
  clear Bx_W2 ltx_W2 D0_W2 Y0_W2 Z0_W2
  clear kpW2 bwW2 inW2 hb2
  clear C2
  cases fb with
  | false =>
    go_wp2_with fail
    go_ret
    exact ⟨rfl, bww2.out⟩
  | true =>
    have hl1 : (128 : Int) < (b.length : Int) := by omega
    go_wp2_with fail
    go_ret
    exact ⟨rfl, bww2.out⟩
set_option maxRecDepth 100000 in
set_option maxHeartbeats 2000000 in
theorem law7_long2 (w : World) (d : DiskD) (v : Value) (h : IsDisk w (NB []) v d) (hL : Lens d) (x y : Int) (b : List UInt8) (u : Value) (hb : IsBytes w (NB []) u b) (c : List UInt8) (t : Value) (hc : IsBytes w (NB []) t c) (hs : b.length ≤ 128) (hl : 128 < c.length) : Calls Try.prog 7 #[v, .int .i64 x, .int .i64 y, u, t] w fun e w' => e = .returned (.bool true) ∧ Below w.heap.size w w' := by
  obtain ⟨sA0, sc0, pA0, pc0, rfl, hsA1, hsA2, -⟩ := h.parts
  have D0_w := Lib.hid h
  clear h
  have Y0_w := Lib.hid hb
  clear hb
  have Z0_w := Lib.hid hc
  clear hc
  obtain ⟨bA, bc, rfl, hb1, hb2, -⟩ := Y0_w.out
  obtain ⟨cA, cc, rfl, hc1, hc2, -⟩ := Z0_w.out
  go_enter Try.func7, Try.ntmps7
  go_wp2_with fail
  refine nameW fun W1 hW1 => ?_
  have kpW1 : Kp [w.heap.size] w W1 := by rw [hW1.out]; repeat (first | exact Kp.refl _ _ | refine Kp.alloc ?_ _ | refine Kp.setCell ?_ (by simp) _ _ | refine Kp.drew ?_ | refine Kp.drewN ?_ _)
  have bwW1 : Below w.heap.size w W1 := by rw [hW1.out]; repeat (first | exact Below.refl _ _ | refine Below.alloc ?_ (by (repeat (first | simp only [World.size_alloc] | simp only [size_set] | simp only [World.size_drew])); omega) _ | refine Below.setCell ?_ (by first | (dsimp only; omega) | omega) _ | refine Below.drew ?_ | refine below_drewN ?_ _)
  have szW1 : w.heap.size ≤ W1.heap.size := kpW1.size
  have Bx_W1 : Hid (W1.heap[w.heap.size]? = some (.cells #[.slice sA0 d.sectors.length sc0, .slice pA0 d.pending.length pc0, .int .i64 d.left, .bool d.stopped] 25 (0, 0))) := by show _ = _; rw [hW1.out]; (repeat (first | simp only [heap_drew] | simp only [World.heap_drewN] | simp only [heap_alloc_if] | simp only [heap_set_if] | simp only [World.size_alloc] | simp only [size_set] | simp only [World.size_drew])); (repeat (first | rw [if_pos trivial] | rw [if_pos (by omega)] | rw [if_neg (by omega)]))
  have ltx_W1 : w.heap.size < W1.heap.size := lt_heap Bx_W1.out
  have mkx : w.heap.size < W1.heap.size := ltx_W1
  have inW1 : InW [w.heap.size] W1 := by intro b hb; simp at hb; omega
  have D0_W1 := Lib.hid (((D0_w.out).box (by omega)).kp kpW1)
  have Y0_W1 := Lib.hid (((Y0_w.out).box (by omega)).kp kpW1)
  have Z0_W1 := Lib.hid (((Z0_w.out).box (by omega)).kp kpW1)
  clear D0_w Y0_w Z0_w
  have C1 := Lib.hid (sane_any W1)
  refine C1.out.mono ?_
  rintro e w1 ⟨rfl, hb1⟩
  have Bx_w1 := Lib.hid ((hb1.block (w.heap.size) (by omega)).trans Bx_W1.out)
  have ltx_w1 : w.heap.size < w1.heap.size := lt_heap Bx_w1.out
  have D0_w1 := Lib.hid (D0_W1.out.below hb1)
  have Y0_w1 := Lib.hid (Y0_W1.out.below hb1)
  have Z0_w1 := Lib.hid (Z0_W1.out.below hb1)
  have bww1 := Lib.hid (bwW1.trans (hb1.mono bwW1.size))
  have szw1 : W1.heap.size ≤ w1.heap.size := hb1.size
  clear Bx_W1 ltx_W1 D0_W1 Y0_W1 Z0_W1
  clear kpW1 bwW1 inW1 hb1
  clear C1
  obtain ⟨⟨c0, c1, c2, c3⟩, ⟨cf0, cf1, cf2, cf3⟩⟩ := blk4 (Below.refl _ w1) Bx_w1.out (Nat.lt_succ_self _)
  go_wp2_with fail
  refine nameW fun W2 hW2 => ?_
  have kpW2 : Kp [w.heap.size] w1 W2 := by rw [hW2.out]; repeat (first | exact Kp.refl _ _ | refine Kp.alloc ?_ _ | refine Kp.setCell ?_ (by simp) _ _ | refine Kp.drew ?_ | refine Kp.drewN ?_ _)
  have bwW2 : Below w.heap.size w W2 := by rw [hW2.out]; repeat (first | exact bww1.out | refine Below.alloc ?_ (by (repeat (first | simp only [World.size_alloc] | simp only [size_set] | simp only [World.size_drew])); omega) _ | refine Below.setCell ?_ (by first | (dsimp only; omega) | omega) _ | refine Below.drew ?_ | refine below_drewN ?_ _)
  have szW2 : w1.heap.size ≤ W2.heap.size := kpW2.size
  have Bx_W2 : Hid (W2.heap[w.heap.size]? = some (.cells #[.slice sA0 d.sectors.length sc0, .slice pA0 d.pending.length pc0, .int .i64 d.left, .bool d.stopped] 25 (0, 0))) := by show _ = _; rw [hW2.out]; (repeat (first | simp only [heap_drew] | simp only [World.heap_drewN] | simp only [heap_alloc_if] | simp only [heap_set_if] | simp only [World.size_alloc] | simp only [size_set] | simp only [World.size_drew])); (repeat (first | rw [if_pos trivial] | rw [if_pos (by omega)] | rw [if_neg (by omega)])); exact Bx_w1.out
  have ltx_W2 : w.heap.size < W2.heap.size := lt_heap Bx_W2.out
  have inW2 : InW [w.heap.size] W2 := by intro b hb; simp at hb; omega
  have D0_W2 := Lib.hid ((D0_w1.out).kp kpW2)
  have Y0_W2 := Lib.hid ((Y0_w1.out).kp kpW2)
  have Z0_W2 := Lib.hid ((Z0_w1.out).kp kpW2)
  clear Bx_w1 ltx_w1 D0_w1 Y0_w1 Z0_w1 c0 c1 c2 c3 cf0 cf1 cf2 cf3
  have C2 := Lib.hid (few_any W2 (NB [w.heap.size]) d _ D0_W2.out hL)
  refine C2.out.mono ?_
  rintro e w2 ⟨fb, rfl, hsm, hb2⟩
  have HSM := Lib.hid hsm
  clear hsm
  have Bx_w2 := Lib.hid ((hb2.block (w.heap.size) (by omega)).trans Bx_W2.out)
  have ltx_w2 : w.heap.size < w2.heap.size := lt_heap Bx_w2.out
  have D0_w2 := Lib.hid (D0_W2.out.below hb2)
  have Y0_w2 := Lib.hid (Y0_W2.out.below hb2)
  have Z0_w2 := Lib.hid (Z0_W2.out.below hb2)
  have bww2 := Lib.hid (bwW2.trans (hb2.mono bwW2.size))
  have szw2 : W2.heap.size ≤ w2.heap.size := hb2.size
  clear Bx_W2 ltx_W2 D0_W2 Y0_W2 Z0_W2
  clear kpW2 bwW2 inW2 hb2
  clear C2
  cases fb with
  | false =>
    go_wp2_with fail
    go_ret
    exact ⟨rfl, bww2.out⟩
  | true =>
    have hl1 : ¬ (128 : Int) < (b.length : Int) := by omega
    have hl2 : (128 : Int) < (c.length : Int) := by omega
    go_wp2_with fail
    go_ret
    exact ⟨rfl, bww2.out⟩
set_option maxRecDepth 100000 in
set_option maxHeartbeats 2000000 in
theorem law7_refused (w : World) (d : DiskD) (v : Value) (h : IsDisk w (NB []) v d) (hL : Lens d) (x y : Int) (b : List UInt8) (u : Value) (hb : IsBytes w (NB []) u b) (c : List UInt8) (t : Value) (hc : IsBytes w (NB []) t c) (hs : b.length ≤ 128) (hs2 : c.length ≤ 128) (hno : ¬ ((readD d y).2 = 0 ∧ (writeD d x b).2 = 0)) : Calls Try.prog 7 #[v, .int .i64 x, .int .i64 y, u, t] w fun e w' => e = .returned (.bool true) ∧ Below w.heap.size w w' := by
  obtain ⟨sA0, sc0, pA0, pc0, rfl, hsA1, hsA2, -⟩ := h.parts
  have D0_w := Lib.hid h
  clear h
  have Y0_w := Lib.hid hb
  clear hb
  have Z0_w := Lib.hid hc
  clear hc
  obtain ⟨bA, bc, rfl, hb1, hb2, -⟩ := Y0_w.out
  obtain ⟨cA, cc, rfl, hc1, hc2, -⟩ := Z0_w.out
  obtain ⟨r3, hr3⟩ : ∃ r, readD d y = r := ⟨_, rfl⟩
  obtain ⟨r4, hr4⟩ : ∃ r, writeD d x b = r := ⟨_, rfl⟩
  rw [hr3, hr4] at hno
  have HR3 := Lib.hid hr3
  have HR4 := Lib.hid hr4
  clear hr3 hr4
  go_enter Try.func7, Try.ntmps7
  go_wp2_with fail
  refine nameW fun W1 hW1 => ?_
  have kpW1 : Kp [w.heap.size] w W1 := by rw [hW1.out]; repeat (first | exact Kp.refl _ _ | refine Kp.alloc ?_ _ | refine Kp.setCell ?_ (by simp) _ _ | refine Kp.drew ?_ | refine Kp.drewN ?_ _)
  have bwW1 : Below w.heap.size w W1 := by rw [hW1.out]; repeat (first | exact Below.refl _ _ | refine Below.alloc ?_ (by (repeat (first | simp only [World.size_alloc] | simp only [size_set] | simp only [World.size_drew])); omega) _ | refine Below.setCell ?_ (by first | (dsimp only; omega) | omega) _ | refine Below.drew ?_ | refine below_drewN ?_ _)
  have szW1 : w.heap.size ≤ W1.heap.size := kpW1.size
  have Bx_W1 : Hid (W1.heap[w.heap.size]? = some (.cells #[.slice sA0 d.sectors.length sc0, .slice pA0 d.pending.length pc0, .int .i64 d.left, .bool d.stopped] 25 (0, 0))) := by show _ = _; rw [hW1.out]; (repeat (first | simp only [heap_drew] | simp only [World.heap_drewN] | simp only [heap_alloc_if] | simp only [heap_set_if] | simp only [World.size_alloc] | simp only [size_set] | simp only [World.size_drew])); (repeat (first | rw [if_pos trivial] | rw [if_pos (by omega)] | rw [if_neg (by omega)]))
  have ltx_W1 : w.heap.size < W1.heap.size := lt_heap Bx_W1.out
  have mkx : w.heap.size < W1.heap.size := ltx_W1
  have inW1 : InW [w.heap.size] W1 := by intro b hb; simp at hb; omega
  have D0_W1 := Lib.hid (((D0_w.out).box (by omega)).kp kpW1)
  have Y0_W1 := Lib.hid (((Y0_w.out).box (by omega)).kp kpW1)
  have Z0_W1 := Lib.hid (((Z0_w.out).box (by omega)).kp kpW1)
  clear D0_w Y0_w Z0_w
  have C1 := Lib.hid (sane_any W1)
  refine C1.out.mono ?_
  rintro e w1 ⟨rfl, hb1⟩
  have Bx_w1 := Lib.hid ((hb1.block (w.heap.size) (by omega)).trans Bx_W1.out)
  have ltx_w1 : w.heap.size < w1.heap.size := lt_heap Bx_w1.out
  have D0_w1 := Lib.hid (D0_W1.out.below hb1)
  have Y0_w1 := Lib.hid (Y0_W1.out.below hb1)
  have Z0_w1 := Lib.hid (Z0_W1.out.below hb1)
  have bww1 := Lib.hid (bwW1.trans (hb1.mono bwW1.size))
  have szw1 : W1.heap.size ≤ w1.heap.size := hb1.size
  clear Bx_W1 ltx_W1 D0_W1 Y0_W1 Z0_W1
  clear kpW1 bwW1 inW1 hb1
  clear C1
  obtain ⟨⟨c0, c1, c2, c3⟩, ⟨cf0, cf1, cf2, cf3⟩⟩ := blk4 (Below.refl _ w1) Bx_w1.out (Nat.lt_succ_self _)
  go_wp2_with fail
  refine nameW fun W2 hW2 => ?_
  have kpW2 : Kp [w.heap.size] w1 W2 := by rw [hW2.out]; repeat (first | exact Kp.refl _ _ | refine Kp.alloc ?_ _ | refine Kp.setCell ?_ (by simp) _ _ | refine Kp.drew ?_ | refine Kp.drewN ?_ _)
  have bwW2 : Below w.heap.size w W2 := by rw [hW2.out]; repeat (first | exact bww1.out | refine Below.alloc ?_ (by (repeat (first | simp only [World.size_alloc] | simp only [size_set] | simp only [World.size_drew])); omega) _ | refine Below.setCell ?_ (by first | (dsimp only; omega) | omega) _ | refine Below.drew ?_ | refine below_drewN ?_ _)
  have szW2 : w1.heap.size ≤ W2.heap.size := kpW2.size
  have Bx_W2 : Hid (W2.heap[w.heap.size]? = some (.cells #[.slice sA0 d.sectors.length sc0, .slice pA0 d.pending.length pc0, .int .i64 d.left, .bool d.stopped] 25 (0, 0))) := by show _ = _; rw [hW2.out]; (repeat (first | simp only [heap_drew] | simp only [World.heap_drewN] | simp only [heap_alloc_if] | simp only [heap_set_if] | simp only [World.size_alloc] | simp only [size_set] | simp only [World.size_drew])); (repeat (first | rw [if_pos trivial] | rw [if_pos (by omega)] | rw [if_neg (by omega)])); exact Bx_w1.out
  have ltx_W2 : w.heap.size < W2.heap.size := lt_heap Bx_W2.out
  have inW2 : InW [w.heap.size] W2 := by intro b hb; simp at hb; omega
  have D0_W2 := Lib.hid ((D0_w1.out).kp kpW2)
  have Y0_W2 := Lib.hid ((Y0_w1.out).kp kpW2)
  have Z0_W2 := Lib.hid ((Z0_w1.out).kp kpW2)
  clear Bx_w1 ltx_w1 D0_w1 Y0_w1 Z0_w1 c0 c1 c2 c3 cf0 cf1 cf2 cf3
  have C2 := Lib.hid (few_any W2 (NB [w.heap.size]) d _ D0_W2.out hL)
  refine C2.out.mono ?_
  rintro e w2 ⟨fb, rfl, hsm, hb2⟩
  have HSM := Lib.hid hsm
  clear hsm
  have Bx_w2 := Lib.hid ((hb2.block (w.heap.size) (by omega)).trans Bx_W2.out)
  have ltx_w2 : w.heap.size < w2.heap.size := lt_heap Bx_w2.out
  have D0_w2 := Lib.hid (D0_W2.out.below hb2)
  have Y0_w2 := Lib.hid (Y0_W2.out.below hb2)
  have Z0_w2 := Lib.hid (Z0_W2.out.below hb2)
  have bww2 := Lib.hid (bwW2.trans (hb2.mono bwW2.size))
  have szw2 : W2.heap.size ≤ w2.heap.size := hb2.size
  clear Bx_W2 ltx_W2 D0_W2 Y0_W2 Z0_W2
  clear kpW2 bwW2 inW2 hb2
  clear C2
  cases fb with
  | false =>
    go_wp2_with fail
    go_ret
    exact ⟨rfl, bww2.out⟩
  | true =>
    have hl1 : ¬ (128 : Int) < (b.length : Int) := by omega
    have hl2 : ¬ (128 : Int) < (c.length : Int) := by omega
    obtain ⟨⟨c0, c1, c2, c3⟩, ⟨cf0, cf1, cf2, cf3⟩⟩ := blk4 (Below.refl _ w2) Bx_w2.out (Nat.lt_succ_self _)
    go_wp2_with fail
    refine nameW fun W3 hW3 => ?_
    have kpW3 : Kp [w.heap.size] w2 W3 := by rw [hW3.out]; repeat (first | exact Kp.refl _ _ | refine Kp.alloc ?_ _ | refine Kp.setCell ?_ (by simp) _ _ | refine Kp.drew ?_ | refine Kp.drewN ?_ _)
    have bwW3 : Below w.heap.size w W3 := by rw [hW3.out]; repeat (first | exact bww2.out | refine Below.alloc ?_ (by (repeat (first | simp only [World.size_alloc] | simp only [size_set] | simp only [World.size_drew])); omega) _ | refine Below.setCell ?_ (by first | (dsimp only; omega) | omega) _ | refine Below.drew ?_ | refine below_drewN ?_ _)
    have szW3 : w2.heap.size ≤ W3.heap.size := kpW3.size
    have Bx_W3 : Hid (W3.heap[w.heap.size]? = some (.cells #[.slice sA0 d.sectors.length sc0, .slice pA0 d.pending.length pc0, .int .i64 d.left, .bool d.stopped] 25 (0, 0))) := by show _ = _; rw [hW3.out]; (repeat (first | simp only [heap_drew] | simp only [World.heap_drewN] | simp only [heap_alloc_if] | simp only [heap_set_if] | simp only [World.size_alloc] | simp only [size_set] | simp only [World.size_drew])); (repeat (first | rw [if_pos trivial] | rw [if_pos (by omega)] | rw [if_neg (by omega)])); exact Bx_w2.out
    have ltx_W3 : w.heap.size < W3.heap.size := lt_heap Bx_W3.out
    have inW3 : InW [w.heap.size] W3 := by intro b hb; simp at hb; omega
    have D0_W3 := Lib.hid ((D0_w2.out).kp kpW3)
    have Y0_W3 := Lib.hid ((Y0_w2.out).kp kpW3)
    have Z0_W3 := Lib.hid ((Z0_w2.out).kp kpW3)
    clear Bx_w2 ltx_w2 D0_w2 Y0_w2 Z0_w2 c0 c1 c2 c3 cf0 cf1 cf2 cf3
    have C3 := Lib.hid (read_l [w.heap.size] W3 d _ D0_W3.out y)
    rw [HR3.out] at C3
    refine C3.out.mono ?_
    rintro e w3 ⟨v3, rfl, ⟨A3, c3, rfl, hD3⟩, hb3⟩
    have Bx_w3 := Lib.hid ((hb3.block (w.heap.size) (by omega)).trans Bx_W3.out)
    have ltx_w3 : w.heap.size < w3.heap.size := lt_heap Bx_w3.out
    have D0_w3 := Lib.hid (D0_W3.out.below hb3)
    have Y0_w3 := Lib.hid (Y0_W3.out.below hb3)
    have Z0_w3 := Lib.hid (Z0_W3.out.below hb3)
    have bww3 := Lib.hid (bwW3.trans (hb3.mono bwW3.size))
    have szw3 : W3.heap.size ≤ w3.heap.size := hb3.size
    clear Bx_W3 ltx_W3 D0_W3 Y0_W3 Z0_W3
    clear kpW3 bwW3 inW3 hb3
    have Y3_w3 : Hid (IsBytes w3 (NB [w.heap.size]) (.slice A3 r3.1.length c3) r3.1) := ⟨A3, c3, rfl, hD3⟩
    clear hD3 C3
    obtain ⟨⟨c0, c1, c2, c3⟩, ⟨cf0, cf1, cf2, cf3⟩⟩ := blk4 (Below.refl _ w3) Bx_w3.out (Nat.lt_succ_self _)
    go_wp2_with fail
    refine nameW fun W4 hW4 => ?_
    have kpW4 : Kp [w.heap.size] w3 W4 := by rw [hW4.out]; repeat (first | exact Kp.refl _ _ | refine Kp.alloc ?_ _ | refine Kp.setCell ?_ (by simp) _ _ | refine Kp.drew ?_ | refine Kp.drewN ?_ _)
    have bwW4 : Below w.heap.size w W4 := by rw [hW4.out]; repeat (first | exact bww3.out | refine Below.alloc ?_ (by (repeat (first | simp only [World.size_alloc] | simp only [size_set] | simp only [World.size_drew])); omega) _ | refine Below.setCell ?_ (by first | (dsimp only; omega) | omega) _ | refine Below.drew ?_ | refine below_drewN ?_ _)
    have szW4 : w3.heap.size ≤ W4.heap.size := kpW4.size
    have Bx_W4 : Hid (W4.heap[w.heap.size]? = some (.cells #[.slice sA0 d.sectors.length sc0, .slice pA0 d.pending.length pc0, .int .i64 d.left, .bool d.stopped] 25 (0, 0))) := by show _ = _; rw [hW4.out]; (repeat (first | simp only [heap_drew] | simp only [World.heap_drewN] | simp only [heap_alloc_if] | simp only [heap_set_if] | simp only [World.size_alloc] | simp only [size_set] | simp only [World.size_drew])); (repeat (first | rw [if_pos trivial] | rw [if_pos (by omega)] | rw [if_neg (by omega)])); exact Bx_w3.out
    have ltx_W4 : w.heap.size < W4.heap.size := lt_heap Bx_W4.out
    have inW4 : InW [w.heap.size] W4 := by intro b hb; simp at hb; omega
    have D0_W4 := Lib.hid ((D0_w3.out).kp kpW4)
    have Y0_W4 := Lib.hid ((Y0_w3.out).kp kpW4)
    have Z0_W4 := Lib.hid ((Z0_w3.out).kp kpW4)
    have Y3_W4 := Lib.hid ((Y3_w3.out).kp kpW4)
    clear Bx_w3 ltx_w3 D0_w3 Y0_w3 Z0_w3 Y3_w3 c0 c1 c2 c3 cf0 cf1 cf2 cf3
    have C4 := Lib.hid (write_l [w.heap.size] W4 inW4 d _ D0_W4.out x b _ Y0_W4.out)
    rw [HR4.out] at C4
    refine C4.out.mono ?_
    rintro e w4 ⟨v4, rfl, hD4, hb4⟩
    obtain ⟨sA4, sc4, pA4, pc4, rfl, -⟩ := hD4.parts
    have Bx_w4 := Lib.hid ((hb4.block (w.heap.size) (by omega)).trans Bx_W4.out)
    have ltx_w4 : w.heap.size < w4.heap.size := lt_heap Bx_w4.out
    have D0_w4 := Lib.hid (D0_W4.out.below hb4)
    have Y0_w4 := Lib.hid (Y0_W4.out.below hb4)
    have Z0_w4 := Lib.hid (Z0_W4.out.below hb4)
    have Y3_w4 := Lib.hid (Y3_W4.out.below hb4)
    have bww4 := Lib.hid (bwW4.trans (hb4.mono bwW4.size))
    have szw4 : W4.heap.size ≤ w4.heap.size := hb4.size
    clear Bx_W4 ltx_W4 D0_W4 Y0_W4 Z0_W4 Y3_W4
    clear kpW4 bwW4 inW4 hb4
    clear hD4 C4
    have hcase : ((r3.2 != 0) = true) ∨ ((r3.2 != 0) = false ∧ (r4.2 != 0) = true) := by
      by_cases h3 : r3.2 = 0
      · exact .inr ⟨by simp [h3], by simp; exact fun h4 => hno ⟨h3, h4⟩⟩
      · exact .inl (by simp [h3])
    clear hno
    rcases hcase with hq | ⟨hq, hq2⟩
    all_goals (go_wp2_with fail; go_ret; exact ⟨rfl, bww4.out.alloc (by have := bww4.out.size; omega) _⟩)
theorem conv_any {w w' : World} {M : Nat → Prop} {A : Option Addr} {n c : Nat} {bs : List UInt8} (h : IsBytes w' M (.slice A n c) bs) (hw : ∀ p, w.cell? p = w'.cell? p := by intro p; rfl) : (convert 35 9 (.slice A n c)).run Try.prog w = .ok (.string ⟨bs.toArray⟩) w :=
  conv_is (h.keep (w' := w) fun p _ _ => hw p)
theorem conv_take {w w' : World} {M : Nat → Prop} {A : Option Addr} {n c : Nat} {b pb : List UInt8} (hs : b.length ≤ 128) (hpl : pb.length = 128) (ht : pb.take b.length = b) (h : IsBytes w' M (.slice A n c) pb) (hw : ∀ p, w.cell? p = w'.cell? p := by intro p; rfl) : (convert 35 9 (.slice A b.length c)).run Try.prog w = .ok (.string ⟨b.toArray⟩) w := by
  have h' := h.keep (w' := w) fun p _ _ => hw p
  obtain ⟨A', c', e, h1, h2, h3⟩ := h'
  cases e
  refine conv_bytes (M := M) c (fun hn => ?_)
  obtain ⟨g, o, e, hm, hc⟩ := h3 (by omega)
  refine ⟨g, o, e, hm, fun i j hi hj => ?_⟩
  rw [hc i j (by omega) hj]
  conv => rhs; rw [← ht]
  simp [List.getD_eq_getElem?_getD, hi]
theorem cap_of {w : World} {M : Nat → Prop} {A : Option Addr} {n c : Nat} {bs : List UInt8} (h : IsBytes w M (.slice A n c) bs) : bs.length ≤ c ∧ c ≤ 9223372036854775807 := by
  obtain ⟨A', c', e, h1, h2, h3⟩ := h
  cases e
  exact ⟨h1, h2⟩
set_option maxRecDepth 100000 in
set_option maxHeartbeats 2000000 in
theorem law7_full (w : World) (d : DiskD) (v : Value) (h : IsDisk w (NB []) v d) (hL : Lens d) (x y : Int) (b : List UInt8) (u : Value) (hb : IsBytes w (NB []) u b) (c : List UInt8) (t : Value) (hc : IsBytes w (NB []) t c) (hs : b.length ≤ 128) (hs2 : c.length ≤ 128) (rb ra : List UInt8) (e3 : readD d y = (rb, 0)) (e4 : writeD d x b = (wrote d x b, 0)) (e5 : readD (wrote d x b) y = (ra, 0)) (her : ¬ x = y → ra = rb) (e6 : readD (wrote d x b) x = (pad b, 0)) (e7 : writeD (wrote d x b) y c = (zeroD, 2)) : Calls Try.prog 7 #[v, .int .i64 x, .int .i64 y, u, t] w fun e w' => e = .returned (.bool true) ∧ Below w.heap.size w w' := by
  obtain ⟨sA0, sc0, pA0, pc0, rfl, hsA1, hsA2, -⟩ := h.parts
  have D0_w := Lib.hid h
  clear h
  have Y0_w := Lib.hid hb
  clear hb
  have Z0_w := Lib.hid hc
  clear hc
  obtain ⟨bA, bc, rfl, hb1, hb2, -⟩ := Y0_w.out
  obtain ⟨cA, cc, rfl, hc1, hc2, -⟩ := Z0_w.out
  obtain ⟨dx, hdx⟩ : ∃ r, wrote d x b = r := ⟨_, rfl⟩
  rw [hdx] at e4 e5 e6 e7
  obtain ⟨pb, hpb⟩ : ∃ r, pad b = r := ⟨_, rfl⟩
  have hpl := pad_length hs
  have hpt := pad_take b
  rw [hpb] at e6 hpl hpt
  have HE3 := Lib.hid e3
  have HE4 := Lib.hid e4
  have HE5 := Lib.hid e5
  have HE6 := Lib.hid e6
  have HE7 := Lib.hid e7
  have HPT := Lib.hid hpt
  clear hdx hpb hpt e3 e4 e5 e6 e7
  go_enter Try.func7, Try.ntmps7
  go_wp2_with fail
  refine nameW fun W1 hW1 => ?_
  have kpW1 : Kp [w.heap.size] w W1 := by rw [hW1.out]; repeat (first | exact Kp.refl _ _ | refine Kp.alloc ?_ _ | refine Kp.setCell ?_ (by simp) _ _ | refine Kp.drew ?_ | refine Kp.drewN ?_ _)
  have bwW1 : Below w.heap.size w W1 := by rw [hW1.out]; repeat (first | exact Below.refl _ _ | refine Below.alloc ?_ (by (repeat (first | simp only [World.size_alloc] | simp only [size_set] | simp only [World.size_drew])); omega) _ | refine Below.setCell ?_ (by first | (dsimp only; omega) | omega) _ | refine Below.drew ?_ | refine below_drewN ?_ _)
  have szW1 : w.heap.size ≤ W1.heap.size := kpW1.size
  have Bx_W1 : Hid (W1.heap[w.heap.size]? = some (.cells #[.slice sA0 d.sectors.length sc0, .slice pA0 d.pending.length pc0, .int .i64 d.left, .bool d.stopped] 25 (0, 0))) := by show _ = _; rw [hW1.out]; (repeat (first | simp only [heap_drew] | simp only [World.heap_drewN] | simp only [heap_alloc_if] | simp only [heap_set_if] | simp only [World.size_alloc] | simp only [size_set] | simp only [World.size_drew])); (repeat (first | rw [if_pos trivial] | rw [if_pos (by omega)] | rw [if_neg (by omega)]))
  have ltx_W1 : w.heap.size < W1.heap.size := lt_heap Bx_W1.out
  have mkx : w.heap.size < W1.heap.size := ltx_W1
  have inW1 : InW [w.heap.size] W1 := by intro b hb; simp at hb; omega
  have D0_W1 := Lib.hid (((D0_w.out).box (by omega)).kp kpW1)
  have Y0_W1 := Lib.hid (((Y0_w.out).box (by omega)).kp kpW1)
  have Z0_W1 := Lib.hid (((Z0_w.out).box (by omega)).kp kpW1)
  clear D0_w Y0_w Z0_w
  have C1 := Lib.hid (sane_any W1)
  refine C1.out.mono ?_
  rintro e w1 ⟨rfl, hb1⟩
  have Bx_w1 := Lib.hid ((hb1.block (w.heap.size) (by omega)).trans Bx_W1.out)
  have ltx_w1 : w.heap.size < w1.heap.size := lt_heap Bx_w1.out
  have D0_w1 := Lib.hid (D0_W1.out.below hb1)
  have Y0_w1 := Lib.hid (Y0_W1.out.below hb1)
  have Z0_w1 := Lib.hid (Z0_W1.out.below hb1)
  have bww1 := Lib.hid (bwW1.trans (hb1.mono bwW1.size))
  have szw1 : W1.heap.size ≤ w1.heap.size := hb1.size
  clear Bx_W1 ltx_W1 D0_W1 Y0_W1 Z0_W1
  clear kpW1 bwW1 inW1 hb1
  clear C1
  obtain ⟨⟨c0, c1, c2, c3⟩, ⟨cf0, cf1, cf2, cf3⟩⟩ := blk4 (Below.refl _ w1) Bx_w1.out (Nat.lt_succ_self _)
  go_wp2_with fail
  refine nameW fun W2 hW2 => ?_
  have kpW2 : Kp [w.heap.size] w1 W2 := by rw [hW2.out]; repeat (first | exact Kp.refl _ _ | refine Kp.alloc ?_ _ | refine Kp.setCell ?_ (by simp) _ _ | refine Kp.drew ?_ | refine Kp.drewN ?_ _)
  have bwW2 : Below w.heap.size w W2 := by rw [hW2.out]; repeat (first | exact bww1.out | refine Below.alloc ?_ (by (repeat (first | simp only [World.size_alloc] | simp only [size_set] | simp only [World.size_drew])); omega) _ | refine Below.setCell ?_ (by first | (dsimp only; omega) | omega) _ | refine Below.drew ?_ | refine below_drewN ?_ _)
  have szW2 : w1.heap.size ≤ W2.heap.size := kpW2.size
  have Bx_W2 : Hid (W2.heap[w.heap.size]? = some (.cells #[.slice sA0 d.sectors.length sc0, .slice pA0 d.pending.length pc0, .int .i64 d.left, .bool d.stopped] 25 (0, 0))) := by show _ = _; rw [hW2.out]; (repeat (first | simp only [heap_drew] | simp only [World.heap_drewN] | simp only [heap_alloc_if] | simp only [heap_set_if] | simp only [World.size_alloc] | simp only [size_set] | simp only [World.size_drew])); (repeat (first | rw [if_pos trivial] | rw [if_pos (by omega)] | rw [if_neg (by omega)])); exact Bx_w1.out
  have ltx_W2 : w.heap.size < W2.heap.size := lt_heap Bx_W2.out
  have inW2 : InW [w.heap.size] W2 := by intro b hb; simp at hb; omega
  have D0_W2 := Lib.hid ((D0_w1.out).kp kpW2)
  have Y0_W2 := Lib.hid ((Y0_w1.out).kp kpW2)
  have Z0_W2 := Lib.hid ((Z0_w1.out).kp kpW2)
  clear Bx_w1 ltx_w1 D0_w1 Y0_w1 Z0_w1 c0 c1 c2 c3 cf0 cf1 cf2 cf3
  have C2 := Lib.hid (few_any W2 (NB [w.heap.size]) d _ D0_W2.out hL)
  refine C2.out.mono ?_
  rintro e w2 ⟨fb, rfl, hsm, hb2⟩
  have HSM := Lib.hid hsm
  clear hsm
  have Bx_w2 := Lib.hid ((hb2.block (w.heap.size) (by omega)).trans Bx_W2.out)
  have ltx_w2 : w.heap.size < w2.heap.size := lt_heap Bx_w2.out
  have D0_w2 := Lib.hid (D0_W2.out.below hb2)
  have Y0_w2 := Lib.hid (Y0_W2.out.below hb2)
  have Z0_w2 := Lib.hid (Z0_W2.out.below hb2)
  have bww2 := Lib.hid (bwW2.trans (hb2.mono bwW2.size))
  have szw2 : W2.heap.size ≤ w2.heap.size := hb2.size
  clear Bx_W2 ltx_W2 D0_W2 Y0_W2 Z0_W2
  clear kpW2 bwW2 inW2 hb2
  clear C2
  cases fb with
  | false =>
    go_wp2_with fail
    go_ret
    exact ⟨rfl, bww2.out⟩
  | true =>
    have hl1 : ¬ (128 : Int) < (b.length : Int) := by omega
    have hl2 : ¬ (128 : Int) < (c.length : Int) := by omega
    obtain ⟨⟨c0, c1, c2, c3⟩, ⟨cf0, cf1, cf2, cf3⟩⟩ := blk4 (Below.refl _ w2) Bx_w2.out (Nat.lt_succ_self _)
    go_wp2_with fail
    refine nameW fun W3 hW3 => ?_
    have kpW3 : Kp [w.heap.size] w2 W3 := by rw [hW3.out]; repeat (first | exact Kp.refl _ _ | refine Kp.alloc ?_ _ | refine Kp.setCell ?_ (by simp) _ _ | refine Kp.drew ?_ | refine Kp.drewN ?_ _)
    have bwW3 : Below w.heap.size w W3 := by rw [hW3.out]; repeat (first | exact bww2.out | refine Below.alloc ?_ (by (repeat (first | simp only [World.size_alloc] | simp only [size_set] | simp only [World.size_drew])); omega) _ | refine Below.setCell ?_ (by first | (dsimp only; omega) | omega) _ | refine Below.drew ?_ | refine below_drewN ?_ _)
    have szW3 : w2.heap.size ≤ W3.heap.size := kpW3.size
    have Bx_W3 : Hid (W3.heap[w.heap.size]? = some (.cells #[.slice sA0 d.sectors.length sc0, .slice pA0 d.pending.length pc0, .int .i64 d.left, .bool d.stopped] 25 (0, 0))) := by show _ = _; rw [hW3.out]; (repeat (first | simp only [heap_drew] | simp only [World.heap_drewN] | simp only [heap_alloc_if] | simp only [heap_set_if] | simp only [World.size_alloc] | simp only [size_set] | simp only [World.size_drew])); (repeat (first | rw [if_pos trivial] | rw [if_pos (by omega)] | rw [if_neg (by omega)])); exact Bx_w2.out
    have ltx_W3 : w.heap.size < W3.heap.size := lt_heap Bx_W3.out
    have inW3 : InW [w.heap.size] W3 := by intro b hb; simp at hb; omega
    have D0_W3 := Lib.hid ((D0_w2.out).kp kpW3)
    have Y0_W3 := Lib.hid ((Y0_w2.out).kp kpW3)
    have Z0_W3 := Lib.hid ((Z0_w2.out).kp kpW3)
    clear Bx_w2 ltx_w2 D0_w2 Y0_w2 Z0_w2 c0 c1 c2 c3 cf0 cf1 cf2 cf3
    have C3 := Lib.hid (read_l [w.heap.size] W3 d _ D0_W3.out y)
    rw [HE3.out] at C3
    refine C3.out.mono ?_
    rintro e w3 ⟨v3, rfl, ⟨A3, c3, rfl, hD3⟩, hb3⟩
    have Bx_w3 := Lib.hid ((hb3.block (w.heap.size) (by omega)).trans Bx_W3.out)
    have ltx_w3 : w.heap.size < w3.heap.size := lt_heap Bx_w3.out
    have D0_w3 := Lib.hid (D0_W3.out.below hb3)
    have Y0_w3 := Lib.hid (Y0_W3.out.below hb3)
    have Z0_w3 := Lib.hid (Z0_W3.out.below hb3)
    have bww3 := Lib.hid (bwW3.trans (hb3.mono bwW3.size))
    have szw3 : W3.heap.size ≤ w3.heap.size := hb3.size
    clear Bx_W3 ltx_W3 D0_W3 Y0_W3 Z0_W3
    clear kpW3 bwW3 inW3 hb3
    have Y3_w3 : Hid (IsBytes w3 (NB [w.heap.size]) (.slice A3 rb.length c3) rb) := ⟨A3, c3, rfl, hD3⟩
    clear hD3 C3
    obtain ⟨⟨c0, c1, c2, c3⟩, ⟨cf0, cf1, cf2, cf3⟩⟩ := blk4 (Below.refl _ w3) Bx_w3.out (Nat.lt_succ_self _)
    go_wp2_with fail
    refine nameW fun W4 hW4 => ?_
    have kpW4 : Kp [w.heap.size] w3 W4 := by rw [hW4.out]; repeat (first | exact Kp.refl _ _ | refine Kp.alloc ?_ _ | refine Kp.setCell ?_ (by simp) _ _ | refine Kp.drew ?_ | refine Kp.drewN ?_ _)
    have bwW4 : Below w.heap.size w W4 := by rw [hW4.out]; repeat (first | exact bww3.out | refine Below.alloc ?_ (by (repeat (first | simp only [World.size_alloc] | simp only [size_set] | simp only [World.size_drew])); omega) _ | refine Below.setCell ?_ (by first | (dsimp only; omega) | omega) _ | refine Below.drew ?_ | refine below_drewN ?_ _)
    have szW4 : w3.heap.size ≤ W4.heap.size := kpW4.size
    have Bx_W4 : Hid (W4.heap[w.heap.size]? = some (.cells #[.slice sA0 d.sectors.length sc0, .slice pA0 d.pending.length pc0, .int .i64 d.left, .bool d.stopped] 25 (0, 0))) := by show _ = _; rw [hW4.out]; (repeat (first | simp only [heap_drew] | simp only [World.heap_drewN] | simp only [heap_alloc_if] | simp only [heap_set_if] | simp only [World.size_alloc] | simp only [size_set] | simp only [World.size_drew])); (repeat (first | rw [if_pos trivial] | rw [if_pos (by omega)] | rw [if_neg (by omega)])); exact Bx_w3.out
    have ltx_W4 : w.heap.size < W4.heap.size := lt_heap Bx_W4.out
    have inW4 : InW [w.heap.size] W4 := by intro b hb; simp at hb; omega
    have D0_W4 := Lib.hid ((D0_w3.out).kp kpW4)
    have Y0_W4 := Lib.hid ((Y0_w3.out).kp kpW4)
    have Z0_W4 := Lib.hid ((Z0_w3.out).kp kpW4)
    have Y3_W4 := Lib.hid ((Y3_w3.out).kp kpW4)
    clear Bx_w3 ltx_w3 D0_w3 Y0_w3 Z0_w3 Y3_w3 c0 c1 c2 c3 cf0 cf1 cf2 cf3
    have C4 := Lib.hid (write_l [w.heap.size] W4 inW4 d _ D0_W4.out x b _ Y0_W4.out)
    rw [HE4.out] at C4
    refine C4.out.mono ?_
    rintro e w4 ⟨v4, rfl, hD4, hb4⟩
    obtain ⟨sA4, sc4, pA4, pc4, rfl, -⟩ := hD4.parts
    have Bx_w4 := Lib.hid ((hb4.block (w.heap.size) (by omega)).trans Bx_W4.out)
    have ltx_w4 : w.heap.size < w4.heap.size := lt_heap Bx_w4.out
    have D0_w4 := Lib.hid (D0_W4.out.below hb4)
    have Y0_w4 := Lib.hid (Y0_W4.out.below hb4)
    have Z0_w4 := Lib.hid (Z0_W4.out.below hb4)
    have Y3_w4 := Lib.hid (Y3_W4.out.below hb4)
    have bww4 := Lib.hid (bwW4.trans (hb4.mono bwW4.size))
    have szw4 : W4.heap.size ≤ w4.heap.size := hb4.size
    clear Bx_W4 ltx_W4 D0_W4 Y0_W4 Z0_W4 Y3_W4
    clear kpW4 bwW4 inW4 hb4
    have D4_w4 := Lib.hid hD4
    clear hD4 C4
    go_wp2_with fail
    refine nameW fun W5 hW5 => ?_
    have kpW5 : Kp [w4.heap.size, w.heap.size] w4 W5 := by rw [hW5.out]; repeat (first | exact Kp.refl _ _ | refine Kp.alloc ?_ _ | refine Kp.setCell ?_ (by simp) _ _ | refine Kp.drew ?_ | refine Kp.drewN ?_ _)
    have bwW5 : Below w.heap.size w W5 := by rw [hW5.out]; repeat (first | exact bww4.out | refine Below.alloc ?_ (by (repeat (first | simp only [World.size_alloc] | simp only [size_set] | simp only [World.size_drew])); omega) _ | refine Below.setCell ?_ (by first | (dsimp only; omega) | omega) _ | refine Below.drew ?_ | refine below_drewN ?_ _)
    have szW5 : w4.heap.size ≤ W5.heap.size := kpW5.size
    have By4_W5 : Hid (W5.heap[w4.heap.size]? = some (.cells #[.slice sA4 dx.sectors.length sc4, .slice pA4 dx.pending.length pc4, .int .i64 dx.left, .bool dx.stopped] 25 (0, 0))) := by show _ = _; rw [hW5.out]; (repeat (first | simp only [heap_drew] | simp only [World.heap_drewN] | simp only [heap_alloc_if] | simp only [heap_set_if] | simp only [World.size_alloc] | simp only [size_set] | simp only [World.size_drew])); (repeat (first | rw [if_pos trivial] | rw [if_pos (by omega)] | rw [if_neg (by omega)]))
    have lty4_W5 : w4.heap.size < W5.heap.size := lt_heap By4_W5.out
    have mky4 : w4.heap.size < W5.heap.size := lty4_W5
    have Bx_W5 : Hid (W5.heap[w.heap.size]? = some (.cells #[.slice sA0 d.sectors.length sc0, .slice pA0 d.pending.length pc0, .int .i64 d.left, .bool d.stopped] 25 (0, 0))) := by show _ = _; rw [hW5.out]; (repeat (first | simp only [heap_drew] | simp only [World.heap_drewN] | simp only [heap_alloc_if] | simp only [heap_set_if] | simp only [World.size_alloc] | simp only [size_set] | simp only [World.size_drew])); (repeat (first | rw [if_pos trivial] | rw [if_pos (by omega)] | rw [if_neg (by omega)])); exact Bx_w4.out
    have ltx_W5 : w.heap.size < W5.heap.size := lt_heap Bx_W5.out
    have inW5 : InW [w4.heap.size, w.heap.size] W5 := by intro b hb; simp at hb; omega
    have D0_W5 := Lib.hid (((D0_w4.out).box (by omega)).kp kpW5)
    have Y0_W5 := Lib.hid (((Y0_w4.out).box (by omega)).kp kpW5)
    have Z0_W5 := Lib.hid (((Z0_w4.out).box (by omega)).kp kpW5)
    have Y3_W5 := Lib.hid (((Y3_w4.out).box (by omega)).kp kpW5)
    have D4_W5 := Lib.hid (((D4_w4.out).box (by omega)).kp kpW5)
    clear Bx_w4 ltx_w4 D0_w4 Y0_w4 Z0_w4 Y3_w4 D4_w4
    have C5 := Lib.hid (read_l [w4.heap.size, w.heap.size] W5 dx _ D4_W5.out y)
    rw [HE5.out] at C5
    refine C5.out.mono ?_
    rintro e w5 ⟨v5, rfl, ⟨A5, c5, rfl, hD5⟩, hb5⟩
    have Bx_w5 := Lib.hid ((hb5.block (w.heap.size) (by omega)).trans Bx_W5.out)
    have ltx_w5 : w.heap.size < w5.heap.size := lt_heap Bx_w5.out
    have By4_w5 := Lib.hid ((hb5.block (w4.heap.size) (by omega)).trans By4_W5.out)
    have lty4_w5 : w4.heap.size < w5.heap.size := lt_heap By4_w5.out
    have D0_w5 := Lib.hid (D0_W5.out.below hb5)
    have Y0_w5 := Lib.hid (Y0_W5.out.below hb5)
    have Z0_w5 := Lib.hid (Z0_W5.out.below hb5)
    have Y3_w5 := Lib.hid (Y3_W5.out.below hb5)
    have D4_w5 := Lib.hid (D4_W5.out.below hb5)
    have bww5 := Lib.hid (bwW5.trans (hb5.mono bwW5.size))
    have szw5 : W5.heap.size ≤ w5.heap.size := hb5.size
    clear Bx_W5 By4_W5 ltx_W5 lty4_W5 D0_W5 Y0_W5 Z0_W5 Y3_W5 D4_W5
    clear kpW5 bwW5 inW5 hb5
    have Y5_w5 : Hid (IsBytes w5 (NB [w4.heap.size, w.heap.size]) (.slice A5 ra.length c5) ra) := ⟨A5, c5, rfl, hD5⟩
    clear hD5 C5
    obtain ⟨⟨c0, c1, c2, c3⟩, ⟨cf0, cf1, cf2, cf3⟩⟩ := blk4 (Below.refl _ w5) By4_w5.out (Nat.lt_succ_self _)
    go_wp2_with fail
    refine nameW fun W6 hW6 => ?_
    have kpW6 : Kp [w4.heap.size, w.heap.size] w5 W6 := by rw [hW6.out]; repeat (first | exact Kp.refl _ _ | refine Kp.alloc ?_ _ | refine Kp.setCell ?_ (by simp) _ _ | refine Kp.drew ?_ | refine Kp.drewN ?_ _)
    have bwW6 : Below w.heap.size w W6 := by rw [hW6.out]; repeat (first | exact bww5.out | refine Below.alloc ?_ (by (repeat (first | simp only [World.size_alloc] | simp only [size_set] | simp only [World.size_drew])); omega) _ | refine Below.setCell ?_ (by first | (dsimp only; omega) | omega) _ | refine Below.drew ?_ | refine below_drewN ?_ _)
    have szW6 : w5.heap.size ≤ W6.heap.size := kpW6.size
    have Bx_W6 : Hid (W6.heap[w.heap.size]? = some (.cells #[.slice sA0 d.sectors.length sc0, .slice pA0 d.pending.length pc0, .int .i64 d.left, .bool d.stopped] 25 (0, 0))) := by show _ = _; rw [hW6.out]; (repeat (first | simp only [heap_drew] | simp only [World.heap_drewN] | simp only [heap_alloc_if] | simp only [heap_set_if] | simp only [World.size_alloc] | simp only [size_set] | simp only [World.size_drew])); (repeat (first | rw [if_pos trivial] | rw [if_pos (by omega)] | rw [if_neg (by omega)])); exact Bx_w5.out
    have ltx_W6 : w.heap.size < W6.heap.size := lt_heap Bx_W6.out
    have By4_W6 : Hid (W6.heap[w4.heap.size]? = some (.cells #[.slice sA4 dx.sectors.length sc4, .slice pA4 dx.pending.length pc4, .int .i64 dx.left, .bool dx.stopped] 25 (0, 0))) := by show _ = _; rw [hW6.out]; (repeat (first | simp only [heap_drew] | simp only [World.heap_drewN] | simp only [heap_alloc_if] | simp only [heap_set_if] | simp only [World.size_alloc] | simp only [size_set] | simp only [World.size_drew])); (repeat (first | rw [if_pos trivial] | rw [if_pos (by omega)] | rw [if_neg (by omega)])); exact By4_w5.out
    have lty4_W6 : w4.heap.size < W6.heap.size := lt_heap By4_W6.out
    have inW6 : InW [w4.heap.size, w.heap.size] W6 := by intro b hb; simp at hb; omega
    have D0_W6 := Lib.hid ((D0_w5.out).kp kpW6)
    have Y0_W6 := Lib.hid ((Y0_w5.out).kp kpW6)
    have Z0_W6 := Lib.hid ((Z0_w5.out).kp kpW6)
    have Y3_W6 := Lib.hid ((Y3_w5.out).kp kpW6)
    have D4_W6 := Lib.hid ((D4_w5.out).kp kpW6)
    have Y5_W6 := Lib.hid ((Y5_w5.out).kp kpW6)
    clear Bx_w5 By4_w5 ltx_w5 lty4_w5 D0_w5 Y0_w5 Z0_w5 Y3_w5 D4_w5 Y5_w5 c0 c1 c2 c3 cf0 cf1 cf2 cf3
    have C6 := Lib.hid (read_l [w4.heap.size, w.heap.size] W6 dx _ D4_W6.out x)
    rw [HE6.out] at C6
    refine C6.out.mono ?_
    rintro e w6 ⟨v6, rfl, ⟨A6, c6, rfl, hD6⟩, hb6⟩
    have Bx_w6 := Lib.hid ((hb6.block (w.heap.size) (by omega)).trans Bx_W6.out)
    have ltx_w6 : w.heap.size < w6.heap.size := lt_heap Bx_w6.out
    have By4_w6 := Lib.hid ((hb6.block (w4.heap.size) (by omega)).trans By4_W6.out)
    have lty4_w6 : w4.heap.size < w6.heap.size := lt_heap By4_w6.out
    have D0_w6 := Lib.hid (D0_W6.out.below hb6)
    have Y0_w6 := Lib.hid (Y0_W6.out.below hb6)
    have Z0_w6 := Lib.hid (Z0_W6.out.below hb6)
    have Y3_w6 := Lib.hid (Y3_W6.out.below hb6)
    have D4_w6 := Lib.hid (D4_W6.out.below hb6)
    have Y5_w6 := Lib.hid (Y5_W6.out.below hb6)
    have bww6 := Lib.hid (bwW6.trans (hb6.mono bwW6.size))
    have szw6 : W6.heap.size ≤ w6.heap.size := hb6.size
    clear Bx_W6 By4_W6 ltx_W6 lty4_W6 D0_W6 Y0_W6 Z0_W6 Y3_W6 D4_W6 Y5_W6
    clear kpW6 bwW6 inW6 hb6
    have Y6_w6 : Hid (IsBytes w6 (NB [w4.heap.size, w.heap.size]) (.slice A6 pb.length c6) pb) := ⟨A6, c6, rfl, hD6⟩
    clear hD6 C6
    go_upto_region 11 with fail
    go_cut [106] (fun s wx => s = .bool false ∧ Hid (∃ m, wx = w6.drewN m))
    case first =>
      have hcb := fun nq => conv_take (w := w6.drewN nq) hs hpl HPT.out (Y6_w6.out)
      have hc0 := fun nq => conv_any (w := w6.drewN nq) Y0_w6.out
      have hcr := fun nq => conv_any (w := w6.drewN nq) Y3_w6.out
      have hca := fun nq => conv_any (w := w6.drewN nq) Y5_w6.out
      have hcap := cap_of Y6_w6.out
      rw [hpl] at hcap
      have hb0 : (0 : Int) ≤ (b.length : Int) := by omega
      have hb128 : (b.length : Int) ≤ 128 := by omega
      by_cases hxy : x = y
      · have hx1 : (x != y) = false := by simp [hxy]
        clear hxy her
        go_quiet (fail)
        go_wp2_with fail
        go_meet
        exact ⟨rfl, _, rfl⟩
      · have hx1 : (x != y) = true := by simp [hxy]
        have her' := her hxy
        clear hxy her
        rw [her'] at hca
        go_quiet (fail)
        go_wp2_with fail
        go_meet
        exact ⟨rfl, _, rfl⟩
    case rest =>
      obtain ⟨rfl, HC⟩ := hcut
      have hbl : Below w6.heap.size w6 wc := by obtain ⟨m, e⟩ := HC.out; rw [e]; exact below_drewN (Below.refl _ _) _
      have bww6 := bww6.out
      have kpw6 : True := trivial
      have inw6 : True := trivial
      have Bx_wc := Lib.hid ((hbl.block (w.heap.size) (by omega)).trans Bx_w6.out)
      have ltx_wc : w.heap.size < wc.heap.size := lt_heap Bx_wc.out
      have By4_wc := Lib.hid ((hbl.block (w4.heap.size) (by omega)).trans By4_w6.out)
      have lty4_wc : w4.heap.size < wc.heap.size := lt_heap By4_wc.out
      have D0_wc := Lib.hid (D0_w6.out.below hbl)
      have Y0_wc := Lib.hid (Y0_w6.out.below hbl)
      have Z0_wc := Lib.hid (Z0_w6.out.below hbl)
      have Y3_wc := Lib.hid (Y3_w6.out.below hbl)
      have D4_wc := Lib.hid (D4_w6.out.below hbl)
      have Y5_wc := Lib.hid (Y5_w6.out.below hbl)
      have Y6_wc := Lib.hid (Y6_w6.out.below hbl)
      have bwwc := Lib.hid (bww6.trans (hbl.mono bww6.size))
      have szwc : w6.heap.size ≤ wc.heap.size := hbl.size
      clear Bx_w6 By4_w6 ltx_w6 lty4_w6 D0_w6 Y0_w6 Z0_w6 Y3_w6 D4_w6 Y5_w6 Y6_w6
      clear kpw6 bww6 inw6 hbl
      obtain ⟨⟨c0, c1, c2, c3⟩, ⟨cf0, cf1, cf2, cf3⟩⟩ := blk4 (Below.refl _ wc) By4_wc.out (Nat.lt_succ_self _)
      go_wp2_with fail
      refine nameW fun W7 hW7 => ?_
      have kpW7 : Kp [w4.heap.size, w.heap.size] wc W7 := by rw [hW7.out]; repeat (first | exact Kp.refl _ _ | refine Kp.alloc ?_ _ | refine Kp.setCell ?_ (by simp) _ _ | refine Kp.drew ?_ | refine Kp.drewN ?_ _)
      have bwW7 : Below w.heap.size w W7 := by rw [hW7.out]; repeat (first | exact bwwc.out | refine Below.alloc ?_ (by (repeat (first | simp only [World.size_alloc] | simp only [size_set] | simp only [World.size_drew])); omega) _ | refine Below.setCell ?_ (by first | (dsimp only; omega) | omega) _ | refine Below.drew ?_ | refine below_drewN ?_ _)
      have szW7 : wc.heap.size ≤ W7.heap.size := kpW7.size
      have Bx_W7 : Hid (W7.heap[w.heap.size]? = some (.cells #[.slice sA0 d.sectors.length sc0, .slice pA0 d.pending.length pc0, .int .i64 d.left, .bool d.stopped] 25 (0, 0))) := by show _ = _; rw [hW7.out]; (repeat (first | simp only [heap_drew] | simp only [World.heap_drewN] | simp only [heap_alloc_if] | simp only [heap_set_if] | simp only [World.size_alloc] | simp only [size_set] | simp only [World.size_drew])); (repeat (first | rw [if_pos trivial] | rw [if_pos (by omega)] | rw [if_neg (by omega)])); exact Bx_wc.out
      have ltx_W7 : w.heap.size < W7.heap.size := lt_heap Bx_W7.out
      have By4_W7 : Hid (W7.heap[w4.heap.size]? = some (.cells #[.slice sA4 dx.sectors.length sc4, .slice pA4 dx.pending.length pc4, .int .i64 dx.left, .bool dx.stopped] 25 (0, 0))) := by show _ = _; rw [hW7.out]; (repeat (first | simp only [heap_drew] | simp only [World.heap_drewN] | simp only [heap_alloc_if] | simp only [heap_set_if] | simp only [World.size_alloc] | simp only [size_set] | simp only [World.size_drew])); (repeat (first | rw [if_pos trivial] | rw [if_pos (by omega)] | rw [if_neg (by omega)])); exact By4_wc.out
      have lty4_W7 : w4.heap.size < W7.heap.size := lt_heap By4_W7.out
      have inW7 : InW [w4.heap.size, w.heap.size] W7 := by intro b hb; simp at hb; omega
      have D0_W7 := Lib.hid ((D0_wc.out).kp kpW7)
      have Y0_W7 := Lib.hid ((Y0_wc.out).kp kpW7)
      have Z0_W7 := Lib.hid ((Z0_wc.out).kp kpW7)
      have Y3_W7 := Lib.hid ((Y3_wc.out).kp kpW7)
      have D4_W7 := Lib.hid ((D4_wc.out).kp kpW7)
      have Y5_W7 := Lib.hid ((Y5_wc.out).kp kpW7)
      have Y6_W7 := Lib.hid ((Y6_wc.out).kp kpW7)
      clear Bx_wc By4_wc ltx_wc lty4_wc D0_wc Y0_wc Z0_wc Y3_wc D4_wc Y5_wc Y6_wc c0 c1 c2 c3 cf0 cf1 cf2 cf3
      have C7 := Lib.hid (write_l [w4.heap.size, w.heap.size] W7 inW7 dx _ D4_W7.out y c _ Z0_W7.out)
      rw [HE7.out] at C7
      refine C7.out.mono ?_
      rintro e w7 ⟨v7, rfl, hD7, hb7⟩
      obtain ⟨sA7, sc7, pA7, pc7, rfl, -⟩ := hD7.parts
      have Bx_w7 := Lib.hid ((hb7.block (w.heap.size) (by omega)).trans Bx_W7.out)
      have ltx_w7 : w.heap.size < w7.heap.size := lt_heap Bx_w7.out
      have By4_w7 := Lib.hid ((hb7.block (w4.heap.size) (by omega)).trans By4_W7.out)
      have lty4_w7 : w4.heap.size < w7.heap.size := lt_heap By4_w7.out
      have D0_w7 := Lib.hid (D0_W7.out.below hb7)
      have Y0_w7 := Lib.hid (Y0_W7.out.below hb7)
      have Z0_w7 := Lib.hid (Z0_W7.out.below hb7)
      have Y3_w7 := Lib.hid (Y3_W7.out.below hb7)
      have D4_w7 := Lib.hid (D4_W7.out.below hb7)
      have Y5_w7 := Lib.hid (Y5_W7.out.below hb7)
      have Y6_w7 := Lib.hid (Y6_W7.out.below hb7)
      have bww7 := Lib.hid (bwW7.trans (hb7.mono bwW7.size))
      have szw7 : W7.heap.size ≤ w7.heap.size := hb7.size
      clear Bx_W7 By4_W7 ltx_W7 lty4_W7 D0_W7 Y0_W7 Z0_W7 Y3_W7 D4_W7 Y5_W7 Y6_W7
      clear kpW7 bwW7 inW7 hb7
      clear hD7 C7
      go_wp2_with fail
      go_ret
      exact ⟨rfl, bww7.out.alloc (by have := bww7.out.size; omega) _⟩
set_option maxRecDepth 100000 in
set_option maxHeartbeats 2000000 in
theorem law7_stop (w : World) (d : DiskD) (v : Value) (h : IsDisk w (NB []) v d) (hL : Lens d) (x y : Int) (b : List UInt8) (u : Value) (hb : IsBytes w (NB []) u b) (c : List UInt8) (t : Value) (hc : IsBytes w (NB []) t c) (hs : b.length ≤ 128) (hs2 : c.length ≤ 128) (rb ra : List UInt8) (e3 : readD d y = (rb, 0)) (e4 : writeD d x b = (wrote d x b, 0)) (e5 : readD (wrote d x b) y = (ra, 0)) (her : ¬ x = y → ra = rb) (e6 : readD (wrote d x b) x = (pad b, 0)) (dd dz : DiskD) (e7 : writeD (wrote d x b) y c = (dd, 0)) (e8 : syncD dd = (dz, 340)) (hst : dz.stopped = true) : Calls Try.prog 7 #[v, .int .i64 x, .int .i64 y, u, t] w fun e w' => e = .returned (.bool true) ∧ Below w.heap.size w w' := by
  obtain ⟨sA0, sc0, pA0, pc0, rfl, hsA1, hsA2, -⟩ := h.parts
  have D0_w := Lib.hid h
  clear h
  have Y0_w := Lib.hid hb
  clear hb
  have Z0_w := Lib.hid hc
  clear hc
  obtain ⟨bA, bc, rfl, hb1, hb2, -⟩ := Y0_w.out
  obtain ⟨cA, cc, rfl, hc1, hc2, -⟩ := Z0_w.out
  obtain ⟨dx, hdx⟩ : ∃ r, wrote d x b = r := ⟨_, rfl⟩
  rw [hdx] at e4 e5 e6 e7
  obtain ⟨pb, hpb⟩ : ∃ r, pad b = r := ⟨_, rfl⟩
  have hpl := pad_length hs
  have hpt := pad_take b
  rw [hpb] at e6 hpl hpt
  have HE3 := Lib.hid e3
  have HE4 := Lib.hid e4
  have HE5 := Lib.hid e5
  have HE6 := Lib.hid e6
  have HE7 := Lib.hid e7
  have HPT := Lib.hid hpt
  clear hdx hpb hpt e3 e4 e5 e6 e7
  have HE8 := Lib.hid e8
  clear e8
  go_enter Try.func7, Try.ntmps7
  go_wp2_with fail
  refine nameW fun W1 hW1 => ?_
  have kpW1 : Kp [w.heap.size] w W1 := by rw [hW1.out]; repeat (first | exact Kp.refl _ _ | refine Kp.alloc ?_ _ | refine Kp.setCell ?_ (by simp) _ _ | refine Kp.drew ?_ | refine Kp.drewN ?_ _)
  have bwW1 : Below w.heap.size w W1 := by rw [hW1.out]; repeat (first | exact Below.refl _ _ | refine Below.alloc ?_ (by (repeat (first | simp only [World.size_alloc] | simp only [size_set] | simp only [World.size_drew])); omega) _ | refine Below.setCell ?_ (by first | (dsimp only; omega) | omega) _ | refine Below.drew ?_ | refine below_drewN ?_ _)
  have szW1 : w.heap.size ≤ W1.heap.size := kpW1.size
  have Bx_W1 : Hid (W1.heap[w.heap.size]? = some (.cells #[.slice sA0 d.sectors.length sc0, .slice pA0 d.pending.length pc0, .int .i64 d.left, .bool d.stopped] 25 (0, 0))) := by show _ = _; rw [hW1.out]; (repeat (first | simp only [heap_drew] | simp only [World.heap_drewN] | simp only [heap_alloc_if] | simp only [heap_set_if] | simp only [World.size_alloc] | simp only [size_set] | simp only [World.size_drew])); (repeat (first | rw [if_pos trivial] | rw [if_pos (by omega)] | rw [if_neg (by omega)]))
  have ltx_W1 : w.heap.size < W1.heap.size := lt_heap Bx_W1.out
  have mkx : w.heap.size < W1.heap.size := ltx_W1
  have inW1 : InW [w.heap.size] W1 := by intro b hb; simp at hb; omega
  have D0_W1 := Lib.hid (((D0_w.out).box (by omega)).kp kpW1)
  have Y0_W1 := Lib.hid (((Y0_w.out).box (by omega)).kp kpW1)
  have Z0_W1 := Lib.hid (((Z0_w.out).box (by omega)).kp kpW1)
  clear D0_w Y0_w Z0_w
  have C1 := Lib.hid (sane_any W1)
  refine C1.out.mono ?_
  rintro e w1 ⟨rfl, hb1⟩
  have Bx_w1 := Lib.hid ((hb1.block (w.heap.size) (by omega)).trans Bx_W1.out)
  have ltx_w1 : w.heap.size < w1.heap.size := lt_heap Bx_w1.out
  have D0_w1 := Lib.hid (D0_W1.out.below hb1)
  have Y0_w1 := Lib.hid (Y0_W1.out.below hb1)
  have Z0_w1 := Lib.hid (Z0_W1.out.below hb1)
  have bww1 := Lib.hid (bwW1.trans (hb1.mono bwW1.size))
  have szw1 : W1.heap.size ≤ w1.heap.size := hb1.size
  clear Bx_W1 ltx_W1 D0_W1 Y0_W1 Z0_W1
  clear kpW1 bwW1 inW1 hb1
  clear C1
  obtain ⟨⟨c0, c1, c2, c3⟩, ⟨cf0, cf1, cf2, cf3⟩⟩ := blk4 (Below.refl _ w1) Bx_w1.out (Nat.lt_succ_self _)
  go_wp2_with fail
  refine nameW fun W2 hW2 => ?_
  have kpW2 : Kp [w.heap.size] w1 W2 := by rw [hW2.out]; repeat (first | exact Kp.refl _ _ | refine Kp.alloc ?_ _ | refine Kp.setCell ?_ (by simp) _ _ | refine Kp.drew ?_ | refine Kp.drewN ?_ _)
  have bwW2 : Below w.heap.size w W2 := by rw [hW2.out]; repeat (first | exact bww1.out | refine Below.alloc ?_ (by (repeat (first | simp only [World.size_alloc] | simp only [size_set] | simp only [World.size_drew])); omega) _ | refine Below.setCell ?_ (by first | (dsimp only; omega) | omega) _ | refine Below.drew ?_ | refine below_drewN ?_ _)
  have szW2 : w1.heap.size ≤ W2.heap.size := kpW2.size
  have Bx_W2 : Hid (W2.heap[w.heap.size]? = some (.cells #[.slice sA0 d.sectors.length sc0, .slice pA0 d.pending.length pc0, .int .i64 d.left, .bool d.stopped] 25 (0, 0))) := by show _ = _; rw [hW2.out]; (repeat (first | simp only [heap_drew] | simp only [World.heap_drewN] | simp only [heap_alloc_if] | simp only [heap_set_if] | simp only [World.size_alloc] | simp only [size_set] | simp only [World.size_drew])); (repeat (first | rw [if_pos trivial] | rw [if_pos (by omega)] | rw [if_neg (by omega)])); exact Bx_w1.out
  have ltx_W2 : w.heap.size < W2.heap.size := lt_heap Bx_W2.out
  have inW2 : InW [w.heap.size] W2 := by intro b hb; simp at hb; omega
  have D0_W2 := Lib.hid ((D0_w1.out).kp kpW2)
  have Y0_W2 := Lib.hid ((Y0_w1.out).kp kpW2)
  have Z0_W2 := Lib.hid ((Z0_w1.out).kp kpW2)
  clear Bx_w1 ltx_w1 D0_w1 Y0_w1 Z0_w1 c0 c1 c2 c3 cf0 cf1 cf2 cf3
  have C2 := Lib.hid (few_any W2 (NB [w.heap.size]) d _ D0_W2.out hL)
  refine C2.out.mono ?_
  rintro e w2 ⟨fb, rfl, hsm, hb2⟩
  have HSM := Lib.hid hsm
  clear hsm
  have Bx_w2 := Lib.hid ((hb2.block (w.heap.size) (by omega)).trans Bx_W2.out)
  have ltx_w2 : w.heap.size < w2.heap.size := lt_heap Bx_w2.out
  have D0_w2 := Lib.hid (D0_W2.out.below hb2)
  have Y0_w2 := Lib.hid (Y0_W2.out.below hb2)
  have Z0_w2 := Lib.hid (Z0_W2.out.below hb2)
  have bww2 := Lib.hid (bwW2.trans (hb2.mono bwW2.size))
  have szw2 : W2.heap.size ≤ w2.heap.size := hb2.size
  clear Bx_W2 ltx_W2 D0_W2 Y0_W2 Z0_W2
  clear kpW2 bwW2 inW2 hb2
  clear C2
  cases fb with
  | false =>
    go_wp2_with fail
    go_ret
    exact ⟨rfl, bww2.out⟩
  | true =>
    have hl1 : ¬ (128 : Int) < (b.length : Int) := by omega
    have hl2 : ¬ (128 : Int) < (c.length : Int) := by omega
    obtain ⟨⟨c0, c1, c2, c3⟩, ⟨cf0, cf1, cf2, cf3⟩⟩ := blk4 (Below.refl _ w2) Bx_w2.out (Nat.lt_succ_self _)
    go_wp2_with fail
    refine nameW fun W3 hW3 => ?_
    have kpW3 : Kp [w.heap.size] w2 W3 := by rw [hW3.out]; repeat (first | exact Kp.refl _ _ | refine Kp.alloc ?_ _ | refine Kp.setCell ?_ (by simp) _ _ | refine Kp.drew ?_ | refine Kp.drewN ?_ _)
    have bwW3 : Below w.heap.size w W3 := by rw [hW3.out]; repeat (first | exact bww2.out | refine Below.alloc ?_ (by (repeat (first | simp only [World.size_alloc] | simp only [size_set] | simp only [World.size_drew])); omega) _ | refine Below.setCell ?_ (by first | (dsimp only; omega) | omega) _ | refine Below.drew ?_ | refine below_drewN ?_ _)
    have szW3 : w2.heap.size ≤ W3.heap.size := kpW3.size
    have Bx_W3 : Hid (W3.heap[w.heap.size]? = some (.cells #[.slice sA0 d.sectors.length sc0, .slice pA0 d.pending.length pc0, .int .i64 d.left, .bool d.stopped] 25 (0, 0))) := by show _ = _; rw [hW3.out]; (repeat (first | simp only [heap_drew] | simp only [World.heap_drewN] | simp only [heap_alloc_if] | simp only [heap_set_if] | simp only [World.size_alloc] | simp only [size_set] | simp only [World.size_drew])); (repeat (first | rw [if_pos trivial] | rw [if_pos (by omega)] | rw [if_neg (by omega)])); exact Bx_w2.out
    have ltx_W3 : w.heap.size < W3.heap.size := lt_heap Bx_W3.out
    have inW3 : InW [w.heap.size] W3 := by intro b hb; simp at hb; omega
    have D0_W3 := Lib.hid ((D0_w2.out).kp kpW3)
    have Y0_W3 := Lib.hid ((Y0_w2.out).kp kpW3)
    have Z0_W3 := Lib.hid ((Z0_w2.out).kp kpW3)
    clear Bx_w2 ltx_w2 D0_w2 Y0_w2 Z0_w2 c0 c1 c2 c3 cf0 cf1 cf2 cf3
    have C3 := Lib.hid (read_l [w.heap.size] W3 d _ D0_W3.out y)
    rw [HE3.out] at C3
    refine C3.out.mono ?_
    rintro e w3 ⟨v3, rfl, ⟨A3, c3, rfl, hD3⟩, hb3⟩
    have Bx_w3 := Lib.hid ((hb3.block (w.heap.size) (by omega)).trans Bx_W3.out)
    have ltx_w3 : w.heap.size < w3.heap.size := lt_heap Bx_w3.out
    have D0_w3 := Lib.hid (D0_W3.out.below hb3)
    have Y0_w3 := Lib.hid (Y0_W3.out.below hb3)
    have Z0_w3 := Lib.hid (Z0_W3.out.below hb3)
    have bww3 := Lib.hid (bwW3.trans (hb3.mono bwW3.size))
    have szw3 : W3.heap.size ≤ w3.heap.size := hb3.size
    clear Bx_W3 ltx_W3 D0_W3 Y0_W3 Z0_W3
    clear kpW3 bwW3 inW3 hb3
    have Y3_w3 : Hid (IsBytes w3 (NB [w.heap.size]) (.slice A3 rb.length c3) rb) := ⟨A3, c3, rfl, hD3⟩
    clear hD3 C3
    obtain ⟨⟨c0, c1, c2, c3⟩, ⟨cf0, cf1, cf2, cf3⟩⟩ := blk4 (Below.refl _ w3) Bx_w3.out (Nat.lt_succ_self _)
    go_wp2_with fail
    refine nameW fun W4 hW4 => ?_
    have kpW4 : Kp [w.heap.size] w3 W4 := by rw [hW4.out]; repeat (first | exact Kp.refl _ _ | refine Kp.alloc ?_ _ | refine Kp.setCell ?_ (by simp) _ _ | refine Kp.drew ?_ | refine Kp.drewN ?_ _)
    have bwW4 : Below w.heap.size w W4 := by rw [hW4.out]; repeat (first | exact bww3.out | refine Below.alloc ?_ (by (repeat (first | simp only [World.size_alloc] | simp only [size_set] | simp only [World.size_drew])); omega) _ | refine Below.setCell ?_ (by first | (dsimp only; omega) | omega) _ | refine Below.drew ?_ | refine below_drewN ?_ _)
    have szW4 : w3.heap.size ≤ W4.heap.size := kpW4.size
    have Bx_W4 : Hid (W4.heap[w.heap.size]? = some (.cells #[.slice sA0 d.sectors.length sc0, .slice pA0 d.pending.length pc0, .int .i64 d.left, .bool d.stopped] 25 (0, 0))) := by show _ = _; rw [hW4.out]; (repeat (first | simp only [heap_drew] | simp only [World.heap_drewN] | simp only [heap_alloc_if] | simp only [heap_set_if] | simp only [World.size_alloc] | simp only [size_set] | simp only [World.size_drew])); (repeat (first | rw [if_pos trivial] | rw [if_pos (by omega)] | rw [if_neg (by omega)])); exact Bx_w3.out
    have ltx_W4 : w.heap.size < W4.heap.size := lt_heap Bx_W4.out
    have inW4 : InW [w.heap.size] W4 := by intro b hb; simp at hb; omega
    have D0_W4 := Lib.hid ((D0_w3.out).kp kpW4)
    have Y0_W4 := Lib.hid ((Y0_w3.out).kp kpW4)
    have Z0_W4 := Lib.hid ((Z0_w3.out).kp kpW4)
    have Y3_W4 := Lib.hid ((Y3_w3.out).kp kpW4)
    clear Bx_w3 ltx_w3 D0_w3 Y0_w3 Z0_w3 Y3_w3 c0 c1 c2 c3 cf0 cf1 cf2 cf3
    have C4 := Lib.hid (write_l [w.heap.size] W4 inW4 d _ D0_W4.out x b _ Y0_W4.out)
    rw [HE4.out] at C4
    refine C4.out.mono ?_
    rintro e w4 ⟨v4, rfl, hD4, hb4⟩
    obtain ⟨sA4, sc4, pA4, pc4, rfl, -⟩ := hD4.parts
    have Bx_w4 := Lib.hid ((hb4.block (w.heap.size) (by omega)).trans Bx_W4.out)
    have ltx_w4 : w.heap.size < w4.heap.size := lt_heap Bx_w4.out
    have D0_w4 := Lib.hid (D0_W4.out.below hb4)
    have Y0_w4 := Lib.hid (Y0_W4.out.below hb4)
    have Z0_w4 := Lib.hid (Z0_W4.out.below hb4)
    have Y3_w4 := Lib.hid (Y3_W4.out.below hb4)
    have bww4 := Lib.hid (bwW4.trans (hb4.mono bwW4.size))
    have szw4 : W4.heap.size ≤ w4.heap.size := hb4.size
    clear Bx_W4 ltx_W4 D0_W4 Y0_W4 Z0_W4 Y3_W4
    clear kpW4 bwW4 inW4 hb4
    have D4_w4 := Lib.hid hD4
    clear hD4 C4
    go_wp2_with fail
    refine nameW fun W5 hW5 => ?_
    have kpW5 : Kp [w4.heap.size, w.heap.size] w4 W5 := by rw [hW5.out]; repeat (first | exact Kp.refl _ _ | refine Kp.alloc ?_ _ | refine Kp.setCell ?_ (by simp) _ _ | refine Kp.drew ?_ | refine Kp.drewN ?_ _)
    have bwW5 : Below w.heap.size w W5 := by rw [hW5.out]; repeat (first | exact bww4.out | refine Below.alloc ?_ (by (repeat (first | simp only [World.size_alloc] | simp only [size_set] | simp only [World.size_drew])); omega) _ | refine Below.setCell ?_ (by first | (dsimp only; omega) | omega) _ | refine Below.drew ?_ | refine below_drewN ?_ _)
    have szW5 : w4.heap.size ≤ W5.heap.size := kpW5.size
    have By4_W5 : Hid (W5.heap[w4.heap.size]? = some (.cells #[.slice sA4 dx.sectors.length sc4, .slice pA4 dx.pending.length pc4, .int .i64 dx.left, .bool dx.stopped] 25 (0, 0))) := by show _ = _; rw [hW5.out]; (repeat (first | simp only [heap_drew] | simp only [World.heap_drewN] | simp only [heap_alloc_if] | simp only [heap_set_if] | simp only [World.size_alloc] | simp only [size_set] | simp only [World.size_drew])); (repeat (first | rw [if_pos trivial] | rw [if_pos (by omega)] | rw [if_neg (by omega)]))
    have lty4_W5 : w4.heap.size < W5.heap.size := lt_heap By4_W5.out
    have mky4 : w4.heap.size < W5.heap.size := lty4_W5
    have Bx_W5 : Hid (W5.heap[w.heap.size]? = some (.cells #[.slice sA0 d.sectors.length sc0, .slice pA0 d.pending.length pc0, .int .i64 d.left, .bool d.stopped] 25 (0, 0))) := by show _ = _; rw [hW5.out]; (repeat (first | simp only [heap_drew] | simp only [World.heap_drewN] | simp only [heap_alloc_if] | simp only [heap_set_if] | simp only [World.size_alloc] | simp only [size_set] | simp only [World.size_drew])); (repeat (first | rw [if_pos trivial] | rw [if_pos (by omega)] | rw [if_neg (by omega)])); exact Bx_w4.out
    have ltx_W5 : w.heap.size < W5.heap.size := lt_heap Bx_W5.out
    have inW5 : InW [w4.heap.size, w.heap.size] W5 := by intro b hb; simp at hb; omega
    have D0_W5 := Lib.hid (((D0_w4.out).box (by omega)).kp kpW5)
    have Y0_W5 := Lib.hid (((Y0_w4.out).box (by omega)).kp kpW5)
    have Z0_W5 := Lib.hid (((Z0_w4.out).box (by omega)).kp kpW5)
    have Y3_W5 := Lib.hid (((Y3_w4.out).box (by omega)).kp kpW5)
    have D4_W5 := Lib.hid (((D4_w4.out).box (by omega)).kp kpW5)
    clear Bx_w4 ltx_w4 D0_w4 Y0_w4 Z0_w4 Y3_w4 D4_w4
    have C5 := Lib.hid (read_l [w4.heap.size, w.heap.size] W5 dx _ D4_W5.out y)
    rw [HE5.out] at C5
    refine C5.out.mono ?_
    rintro e w5 ⟨v5, rfl, ⟨A5, c5, rfl, hD5⟩, hb5⟩
    have Bx_w5 := Lib.hid ((hb5.block (w.heap.size) (by omega)).trans Bx_W5.out)
    have ltx_w5 : w.heap.size < w5.heap.size := lt_heap Bx_w5.out
    have By4_w5 := Lib.hid ((hb5.block (w4.heap.size) (by omega)).trans By4_W5.out)
    have lty4_w5 : w4.heap.size < w5.heap.size := lt_heap By4_w5.out
    have D0_w5 := Lib.hid (D0_W5.out.below hb5)
    have Y0_w5 := Lib.hid (Y0_W5.out.below hb5)
    have Z0_w5 := Lib.hid (Z0_W5.out.below hb5)
    have Y3_w5 := Lib.hid (Y3_W5.out.below hb5)
    have D4_w5 := Lib.hid (D4_W5.out.below hb5)
    have bww5 := Lib.hid (bwW5.trans (hb5.mono bwW5.size))
    have szw5 : W5.heap.size ≤ w5.heap.size := hb5.size
    clear Bx_W5 By4_W5 ltx_W5 lty4_W5 D0_W5 Y0_W5 Z0_W5 Y3_W5 D4_W5
    clear kpW5 bwW5 inW5 hb5
    have Y5_w5 : Hid (IsBytes w5 (NB [w4.heap.size, w.heap.size]) (.slice A5 ra.length c5) ra) := ⟨A5, c5, rfl, hD5⟩
    clear hD5 C5
    obtain ⟨⟨c0, c1, c2, c3⟩, ⟨cf0, cf1, cf2, cf3⟩⟩ := blk4 (Below.refl _ w5) By4_w5.out (Nat.lt_succ_self _)
    go_wp2_with fail
    refine nameW fun W6 hW6 => ?_
    have kpW6 : Kp [w4.heap.size, w.heap.size] w5 W6 := by rw [hW6.out]; repeat (first | exact Kp.refl _ _ | refine Kp.alloc ?_ _ | refine Kp.setCell ?_ (by simp) _ _ | refine Kp.drew ?_ | refine Kp.drewN ?_ _)
    have bwW6 : Below w.heap.size w W6 := by rw [hW6.out]; repeat (first | exact bww5.out | refine Below.alloc ?_ (by (repeat (first | simp only [World.size_alloc] | simp only [size_set] | simp only [World.size_drew])); omega) _ | refine Below.setCell ?_ (by first | (dsimp only; omega) | omega) _ | refine Below.drew ?_ | refine below_drewN ?_ _)
    have szW6 : w5.heap.size ≤ W6.heap.size := kpW6.size
    have Bx_W6 : Hid (W6.heap[w.heap.size]? = some (.cells #[.slice sA0 d.sectors.length sc0, .slice pA0 d.pending.length pc0, .int .i64 d.left, .bool d.stopped] 25 (0, 0))) := by show _ = _; rw [hW6.out]; (repeat (first | simp only [heap_drew] | simp only [World.heap_drewN] | simp only [heap_alloc_if] | simp only [heap_set_if] | simp only [World.size_alloc] | simp only [size_set] | simp only [World.size_drew])); (repeat (first | rw [if_pos trivial] | rw [if_pos (by omega)] | rw [if_neg (by omega)])); exact Bx_w5.out
    have ltx_W6 : w.heap.size < W6.heap.size := lt_heap Bx_W6.out
    have By4_W6 : Hid (W6.heap[w4.heap.size]? = some (.cells #[.slice sA4 dx.sectors.length sc4, .slice pA4 dx.pending.length pc4, .int .i64 dx.left, .bool dx.stopped] 25 (0, 0))) := by show _ = _; rw [hW6.out]; (repeat (first | simp only [heap_drew] | simp only [World.heap_drewN] | simp only [heap_alloc_if] | simp only [heap_set_if] | simp only [World.size_alloc] | simp only [size_set] | simp only [World.size_drew])); (repeat (first | rw [if_pos trivial] | rw [if_pos (by omega)] | rw [if_neg (by omega)])); exact By4_w5.out
    have lty4_W6 : w4.heap.size < W6.heap.size := lt_heap By4_W6.out
    have inW6 : InW [w4.heap.size, w.heap.size] W6 := by intro b hb; simp at hb; omega
    have D0_W6 := Lib.hid ((D0_w5.out).kp kpW6)
    have Y0_W6 := Lib.hid ((Y0_w5.out).kp kpW6)
    have Z0_W6 := Lib.hid ((Z0_w5.out).kp kpW6)
    have Y3_W6 := Lib.hid ((Y3_w5.out).kp kpW6)
    have D4_W6 := Lib.hid ((D4_w5.out).kp kpW6)
    have Y5_W6 := Lib.hid ((Y5_w5.out).kp kpW6)
    clear Bx_w5 By4_w5 ltx_w5 lty4_w5 D0_w5 Y0_w5 Z0_w5 Y3_w5 D4_w5 Y5_w5 c0 c1 c2 c3 cf0 cf1 cf2 cf3
    have C6 := Lib.hid (read_l [w4.heap.size, w.heap.size] W6 dx _ D4_W6.out x)
    rw [HE6.out] at C6
    refine C6.out.mono ?_
    rintro e w6 ⟨v6, rfl, ⟨A6, c6, rfl, hD6⟩, hb6⟩
    have Bx_w6 := Lib.hid ((hb6.block (w.heap.size) (by omega)).trans Bx_W6.out)
    have ltx_w6 : w.heap.size < w6.heap.size := lt_heap Bx_w6.out
    have By4_w6 := Lib.hid ((hb6.block (w4.heap.size) (by omega)).trans By4_W6.out)
    have lty4_w6 : w4.heap.size < w6.heap.size := lt_heap By4_w6.out
    have D0_w6 := Lib.hid (D0_W6.out.below hb6)
    have Y0_w6 := Lib.hid (Y0_W6.out.below hb6)
    have Z0_w6 := Lib.hid (Z0_W6.out.below hb6)
    have Y3_w6 := Lib.hid (Y3_W6.out.below hb6)
    have D4_w6 := Lib.hid (D4_W6.out.below hb6)
    have Y5_w6 := Lib.hid (Y5_W6.out.below hb6)
    have bww6 := Lib.hid (bwW6.trans (hb6.mono bwW6.size))
    have szw6 : W6.heap.size ≤ w6.heap.size := hb6.size
    clear Bx_W6 By4_W6 ltx_W6 lty4_W6 D0_W6 Y0_W6 Z0_W6 Y3_W6 D4_W6 Y5_W6
    clear kpW6 bwW6 inW6 hb6
    have Y6_w6 : Hid (IsBytes w6 (NB [w4.heap.size, w.heap.size]) (.slice A6 pb.length c6) pb) := ⟨A6, c6, rfl, hD6⟩
    clear hD6 C6
    go_upto_region 11 with fail
    go_cut [106] (fun s wx => s = .bool false ∧ Hid (∃ m, wx = w6.drewN m))
    case first =>
      have hcb := fun nq => conv_take (w := w6.drewN nq) hs hpl HPT.out (Y6_w6.out)
      have hc0 := fun nq => conv_any (w := w6.drewN nq) Y0_w6.out
      have hcr := fun nq => conv_any (w := w6.drewN nq) Y3_w6.out
      have hca := fun nq => conv_any (w := w6.drewN nq) Y5_w6.out
      have hcap := cap_of Y6_w6.out
      rw [hpl] at hcap
      have hb0 : (0 : Int) ≤ (b.length : Int) := by omega
      have hb128 : (b.length : Int) ≤ 128 := by omega
      by_cases hxy : x = y
      · have hx1 : (x != y) = false := by simp [hxy]
        clear hxy her
        go_quiet (fail)
        go_wp2_with fail
        go_meet
        exact ⟨rfl, _, rfl⟩
      · have hx1 : (x != y) = true := by simp [hxy]
        have her' := her hxy
        clear hxy her
        rw [her'] at hca
        go_quiet (fail)
        go_wp2_with fail
        go_meet
        exact ⟨rfl, _, rfl⟩
    case rest =>
      obtain ⟨rfl, HC⟩ := hcut
      have hbl : Below w6.heap.size w6 wc := by obtain ⟨m, e⟩ := HC.out; rw [e]; exact below_drewN (Below.refl _ _) _
      have bww6 := bww6.out
      have kpw6 : True := trivial
      have inw6 : True := trivial
      have Bx_wc := Lib.hid ((hbl.block (w.heap.size) (by omega)).trans Bx_w6.out)
      have ltx_wc : w.heap.size < wc.heap.size := lt_heap Bx_wc.out
      have By4_wc := Lib.hid ((hbl.block (w4.heap.size) (by omega)).trans By4_w6.out)
      have lty4_wc : w4.heap.size < wc.heap.size := lt_heap By4_wc.out
      have D0_wc := Lib.hid (D0_w6.out.below hbl)
      have Y0_wc := Lib.hid (Y0_w6.out.below hbl)
      have Z0_wc := Lib.hid (Z0_w6.out.below hbl)
      have Y3_wc := Lib.hid (Y3_w6.out.below hbl)
      have D4_wc := Lib.hid (D4_w6.out.below hbl)
      have Y5_wc := Lib.hid (Y5_w6.out.below hbl)
      have Y6_wc := Lib.hid (Y6_w6.out.below hbl)
      have bwwc := Lib.hid (bww6.trans (hbl.mono bww6.size))
      have szwc : w6.heap.size ≤ wc.heap.size := hbl.size
      clear Bx_w6 By4_w6 ltx_w6 lty4_w6 D0_w6 Y0_w6 Z0_w6 Y3_w6 D4_w6 Y5_w6 Y6_w6
      clear kpw6 bww6 inw6 hbl
      obtain ⟨⟨c0, c1, c2, c3⟩, ⟨cf0, cf1, cf2, cf3⟩⟩ := blk4 (Below.refl _ wc) By4_wc.out (Nat.lt_succ_self _)
      go_wp2_with fail
      refine nameW fun W7 hW7 => ?_
      have kpW7 : Kp [w4.heap.size, w.heap.size] wc W7 := by rw [hW7.out]; repeat (first | exact Kp.refl _ _ | refine Kp.alloc ?_ _ | refine Kp.setCell ?_ (by simp) _ _ | refine Kp.drew ?_ | refine Kp.drewN ?_ _)
      have bwW7 : Below w.heap.size w W7 := by rw [hW7.out]; repeat (first | exact bwwc.out | refine Below.alloc ?_ (by (repeat (first | simp only [World.size_alloc] | simp only [size_set] | simp only [World.size_drew])); omega) _ | refine Below.setCell ?_ (by first | (dsimp only; omega) | omega) _ | refine Below.drew ?_ | refine below_drewN ?_ _)
      have szW7 : wc.heap.size ≤ W7.heap.size := kpW7.size
      have Bx_W7 : Hid (W7.heap[w.heap.size]? = some (.cells #[.slice sA0 d.sectors.length sc0, .slice pA0 d.pending.length pc0, .int .i64 d.left, .bool d.stopped] 25 (0, 0))) := by show _ = _; rw [hW7.out]; (repeat (first | simp only [heap_drew] | simp only [World.heap_drewN] | simp only [heap_alloc_if] | simp only [heap_set_if] | simp only [World.size_alloc] | simp only [size_set] | simp only [World.size_drew])); (repeat (first | rw [if_pos trivial] | rw [if_pos (by omega)] | rw [if_neg (by omega)])); exact Bx_wc.out
      have ltx_W7 : w.heap.size < W7.heap.size := lt_heap Bx_W7.out
      have By4_W7 : Hid (W7.heap[w4.heap.size]? = some (.cells #[.slice sA4 dx.sectors.length sc4, .slice pA4 dx.pending.length pc4, .int .i64 dx.left, .bool dx.stopped] 25 (0, 0))) := by show _ = _; rw [hW7.out]; (repeat (first | simp only [heap_drew] | simp only [World.heap_drewN] | simp only [heap_alloc_if] | simp only [heap_set_if] | simp only [World.size_alloc] | simp only [size_set] | simp only [World.size_drew])); (repeat (first | rw [if_pos trivial] | rw [if_pos (by omega)] | rw [if_neg (by omega)])); exact By4_wc.out
      have lty4_W7 : w4.heap.size < W7.heap.size := lt_heap By4_W7.out
      have inW7 : InW [w4.heap.size, w.heap.size] W7 := by intro b hb; simp at hb; omega
      have D0_W7 := Lib.hid ((D0_wc.out).kp kpW7)
      have Y0_W7 := Lib.hid ((Y0_wc.out).kp kpW7)
      have Z0_W7 := Lib.hid ((Z0_wc.out).kp kpW7)
      have Y3_W7 := Lib.hid ((Y3_wc.out).kp kpW7)
      have D4_W7 := Lib.hid ((D4_wc.out).kp kpW7)
      have Y5_W7 := Lib.hid ((Y5_wc.out).kp kpW7)
      have Y6_W7 := Lib.hid ((Y6_wc.out).kp kpW7)
      clear Bx_wc By4_wc ltx_wc lty4_wc D0_wc Y0_wc Z0_wc Y3_wc D4_wc Y5_wc Y6_wc c0 c1 c2 c3 cf0 cf1 cf2 cf3
      have C7 := Lib.hid (write_l [w4.heap.size, w.heap.size] W7 inW7 dx _ D4_W7.out y c _ Z0_W7.out)
      rw [HE7.out] at C7
      refine C7.out.mono ?_
      rintro e w7 ⟨v7, rfl, hD7, hb7⟩
      obtain ⟨sA7, sc7, pA7, pc7, rfl, -⟩ := hD7.parts
      have Bx_w7 := Lib.hid ((hb7.block (w.heap.size) (by omega)).trans Bx_W7.out)
      have ltx_w7 : w.heap.size < w7.heap.size := lt_heap Bx_w7.out
      have By4_w7 := Lib.hid ((hb7.block (w4.heap.size) (by omega)).trans By4_W7.out)
      have lty4_w7 : w4.heap.size < w7.heap.size := lt_heap By4_w7.out
      have D0_w7 := Lib.hid (D0_W7.out.below hb7)
      have Y0_w7 := Lib.hid (Y0_W7.out.below hb7)
      have Z0_w7 := Lib.hid (Z0_W7.out.below hb7)
      have Y3_w7 := Lib.hid (Y3_W7.out.below hb7)
      have D4_w7 := Lib.hid (D4_W7.out.below hb7)
      have Y5_w7 := Lib.hid (Y5_W7.out.below hb7)
      have Y6_w7 := Lib.hid (Y6_W7.out.below hb7)
      have bww7 := Lib.hid (bwW7.trans (hb7.mono bwW7.size))
      have szw7 : W7.heap.size ≤ w7.heap.size := hb7.size
      clear Bx_W7 By4_W7 ltx_W7 lty4_W7 D0_W7 Y0_W7 Z0_W7 Y3_W7 D4_W7 Y5_W7 Y6_W7
      clear kpW7 bwW7 inW7 hb7
      have D7_w7 := Lib.hid hD7
      clear hD7 C7
      go_wp2_with fail
      refine nameW fun W8 hW8 => ?_
      have kpW8 : Kp [w7.heap.size, w4.heap.size, w.heap.size] w7 W8 := by rw [hW8.out]; repeat (first | exact Kp.refl _ _ | refine Kp.alloc ?_ _ | refine Kp.setCell ?_ (by simp) _ _ | refine Kp.drew ?_ | refine Kp.drewN ?_ _)
      have bwW8 : Below w.heap.size w W8 := by rw [hW8.out]; repeat (first | exact bww7.out | refine Below.alloc ?_ (by (repeat (first | simp only [World.size_alloc] | simp only [size_set] | simp only [World.size_drew])); omega) _ | refine Below.setCell ?_ (by first | (dsimp only; omega) | omega) _ | refine Below.drew ?_ | refine below_drewN ?_ _)
      have szW8 : w7.heap.size ≤ W8.heap.size := kpW8.size
      have By7_W8 : Hid (W8.heap[w7.heap.size]? = some (.cells #[.slice sA7 dd.sectors.length sc7, .slice pA7 dd.pending.length pc7, .int .i64 dd.left, .bool dd.stopped] 25 (0, 0))) := by show _ = _; rw [hW8.out]; (repeat (first | simp only [heap_drew] | simp only [World.heap_drewN] | simp only [heap_alloc_if] | simp only [heap_set_if] | simp only [World.size_alloc] | simp only [size_set] | simp only [World.size_drew])); (repeat (first | rw [if_pos trivial] | rw [if_pos (by omega)] | rw [if_neg (by omega)]))
      have lty7_W8 : w7.heap.size < W8.heap.size := lt_heap By7_W8.out
      have mky7 : w7.heap.size < W8.heap.size := lty7_W8
      have Bx_W8 : Hid (W8.heap[w.heap.size]? = some (.cells #[.slice sA0 d.sectors.length sc0, .slice pA0 d.pending.length pc0, .int .i64 d.left, .bool d.stopped] 25 (0, 0))) := by show _ = _; rw [hW8.out]; (repeat (first | simp only [heap_drew] | simp only [World.heap_drewN] | simp only [heap_alloc_if] | simp only [heap_set_if] | simp only [World.size_alloc] | simp only [size_set] | simp only [World.size_drew])); (repeat (first | rw [if_pos trivial] | rw [if_pos (by omega)] | rw [if_neg (by omega)])); exact Bx_w7.out
      have ltx_W8 : w.heap.size < W8.heap.size := lt_heap Bx_W8.out
      have By4_W8 : Hid (W8.heap[w4.heap.size]? = some (.cells #[.slice sA4 dx.sectors.length sc4, .slice pA4 dx.pending.length pc4, .int .i64 dx.left, .bool dx.stopped] 25 (0, 0))) := by show _ = _; rw [hW8.out]; (repeat (first | simp only [heap_drew] | simp only [World.heap_drewN] | simp only [heap_alloc_if] | simp only [heap_set_if] | simp only [World.size_alloc] | simp only [size_set] | simp only [World.size_drew])); (repeat (first | rw [if_pos trivial] | rw [if_pos (by omega)] | rw [if_neg (by omega)])); exact By4_w7.out
      have lty4_W8 : w4.heap.size < W8.heap.size := lt_heap By4_W8.out
      have inW8 : InW [w7.heap.size, w4.heap.size, w.heap.size] W8 := by intro b hb; simp at hb; omega
      have D0_W8 := Lib.hid (((D0_w7.out).box (by omega)).kp kpW8)
      have Y0_W8 := Lib.hid (((Y0_w7.out).box (by omega)).kp kpW8)
      have Z0_W8 := Lib.hid (((Z0_w7.out).box (by omega)).kp kpW8)
      have Y3_W8 := Lib.hid (((Y3_w7.out).box (by omega)).kp kpW8)
      have D4_W8 := Lib.hid (((D4_w7.out).box (by omega)).kp kpW8)
      have Y5_W8 := Lib.hid (((Y5_w7.out).box (by omega)).kp kpW8)
      have Y6_W8 := Lib.hid (((Y6_w7.out).box (by omega)).kp kpW8)
      have D7_W8 := Lib.hid (((D7_w7.out).box (by omega)).kp kpW8)
      clear Bx_w7 By4_w7 ltx_w7 lty4_w7 D0_w7 Y0_w7 Z0_w7 Y3_w7 D4_w7 Y5_w7 Y6_w7 D7_w7
      have C8 := Lib.hid (sync_l [w7.heap.size, w4.heap.size, w.heap.size] W8 inW8 dd _ D7_W8.out)
      rw [HE8.out] at C8
      refine C8.out.mono ?_
      rintro e w8 ⟨v8, rfl, hD8, hb8⟩
      obtain ⟨sA8, sc8, pA8, pc8, rfl, -⟩ := hD8.parts
      have Bx_w8 := Lib.hid ((hb8.block (w.heap.size) (by omega)).trans Bx_W8.out)
      have ltx_w8 : w.heap.size < w8.heap.size := lt_heap Bx_w8.out
      have By4_w8 := Lib.hid ((hb8.block (w4.heap.size) (by omega)).trans By4_W8.out)
      have lty4_w8 : w4.heap.size < w8.heap.size := lt_heap By4_w8.out
      have By7_w8 := Lib.hid ((hb8.block (w7.heap.size) (by omega)).trans By7_W8.out)
      have lty7_w8 : w7.heap.size < w8.heap.size := lt_heap By7_w8.out
      have D0_w8 := Lib.hid (D0_W8.out.below hb8)
      have Y0_w8 := Lib.hid (Y0_W8.out.below hb8)
      have Z0_w8 := Lib.hid (Z0_W8.out.below hb8)
      have Y3_w8 := Lib.hid (Y3_W8.out.below hb8)
      have D4_w8 := Lib.hid (D4_W8.out.below hb8)
      have Y5_w8 := Lib.hid (Y5_W8.out.below hb8)
      have Y6_w8 := Lib.hid (Y6_W8.out.below hb8)
      have D7_w8 := Lib.hid (D7_W8.out.below hb8)
      have bww8 := Lib.hid (bwW8.trans (hb8.mono bwW8.size))
      have szw8 : W8.heap.size ≤ w8.heap.size := hb8.size
      clear Bx_W8 By4_W8 By7_W8 ltx_W8 lty4_W8 lty7_W8 D0_W8 Y0_W8 Z0_W8 Y3_W8 D4_W8 Y5_W8 Y6_W8 D7_W8
      clear kpW8 bwW8 inW8 hb8
      clear hD8 C8
      go_wp2_with fail
      go_ret
      exact ⟨rfl, bww8.out.alloc (by have := bww8.out.size; omega) _⟩
set_option maxRecDepth 100000 in
set_option maxHeartbeats 2000000 in
theorem law7_go (w : World) (d : DiskD) (v : Value) (h : IsDisk w (NB []) v d) (hL : Lens d) (x y : Int) (b : List UInt8) (u : Value) (hb : IsBytes w (NB []) u b) (c : List UInt8) (t : Value) (hc : IsBytes w (NB []) t c) (hs : b.length ≤ 128) (hs2 : c.length ≤ 128) (rb ra : List UInt8) (e3 : readD d y = (rb, 0)) (e4 : writeD d x b = (wrote d x b, 0)) (e5 : readD (wrote d x b) y = (ra, 0)) (her : ¬ x = y → ra = rb) (e6 : readD (wrote d x b) x = (pad b, 0)) (dd dz : DiskD) (e7 : writeD (wrote d x b) y c = (dd, 0)) (e8 : syncD dd = (dz, 0)) (hzp : dz.pending.length = 0) (hzc : chk dz = 0) (hread : ∀ k : Nat, k < d.sectors.length → ∃ rk, readD dd k = (rk, 0) ∧ readD dz k = (rk, 0)) : Calls Try.prog 7 #[v, .int .i64 x, .int .i64 y, u, t] w fun e w' => e = .returned (.bool true) ∧ Below w.heap.size w w' := by
  obtain ⟨sA0, sc0, pA0, pc0, rfl, hsA1, hsA2, -⟩ := h.parts
  have D0_w := Lib.hid h
  clear h
  have Y0_w := Lib.hid hb
  clear hb
  have Z0_w := Lib.hid hc
  clear hc
  obtain ⟨bA, bc, rfl, hb1, hb2, -⟩ := Y0_w.out
  obtain ⟨cA, cc, rfl, hc1, hc2, -⟩ := Z0_w.out
  obtain ⟨dx, hdx⟩ : ∃ r, wrote d x b = r := ⟨_, rfl⟩
  rw [hdx] at e4 e5 e6 e7
  obtain ⟨pb, hpb⟩ : ∃ r, pad b = r := ⟨_, rfl⟩
  have hpl := pad_length hs
  have hpt := pad_take b
  rw [hpb] at e6 hpl hpt
  have HE3 := Lib.hid e3
  have HE4 := Lib.hid e4
  have HE5 := Lib.hid e5
  have HE6 := Lib.hid e6
  have HE7 := Lib.hid e7
  have HPT := Lib.hid hpt
  clear hdx hpb hpt e3 e4 e5 e6 e7
  have HE8 := Lib.hid e8
  clear e8
  have HZP := Lib.hid hzp
  have HZC := Lib.hid hzc
  clear hzp hzc
  go_enter Try.func7, Try.ntmps7
  go_wp2_with fail
  refine nameW fun W1 hW1 => ?_
  have kpW1 : Kp [w.heap.size] w W1 := by rw [hW1.out]; repeat (first | exact Kp.refl _ _ | refine Kp.alloc ?_ _ | refine Kp.setCell ?_ (by simp) _ _ | refine Kp.drew ?_ | refine Kp.drewN ?_ _)
  have bwW1 : Below w.heap.size w W1 := by rw [hW1.out]; repeat (first | exact Below.refl _ _ | refine Below.alloc ?_ (by (repeat (first | simp only [World.size_alloc] | simp only [size_set] | simp only [World.size_drew])); omega) _ | refine Below.setCell ?_ (by first | (dsimp only; omega) | omega) _ | refine Below.drew ?_ | refine below_drewN ?_ _)
  have szW1 : w.heap.size ≤ W1.heap.size := kpW1.size
  have Bx_W1 : Hid (W1.heap[w.heap.size]? = some (.cells #[.slice sA0 d.sectors.length sc0, .slice pA0 d.pending.length pc0, .int .i64 d.left, .bool d.stopped] 25 (0, 0))) := by show _ = _; rw [hW1.out]; (repeat (first | simp only [heap_drew] | simp only [World.heap_drewN] | simp only [heap_alloc_if] | simp only [heap_set_if] | simp only [World.size_alloc] | simp only [size_set] | simp only [World.size_drew])); (repeat (first | rw [if_pos trivial] | rw [if_pos (by omega)] | rw [if_neg (by omega)]))
  have ltx_W1 : w.heap.size < W1.heap.size := lt_heap Bx_W1.out
  have mkx : w.heap.size < W1.heap.size := ltx_W1
  have inW1 : InW [w.heap.size] W1 := by intro b hb; simp at hb; omega
  have D0_W1 := Lib.hid (((D0_w.out).box (by omega)).kp kpW1)
  have Y0_W1 := Lib.hid (((Y0_w.out).box (by omega)).kp kpW1)
  have Z0_W1 := Lib.hid (((Z0_w.out).box (by omega)).kp kpW1)
  clear D0_w Y0_w Z0_w
  have C1 := Lib.hid (sane_any W1)
  refine C1.out.mono ?_
  rintro e w1 ⟨rfl, hb1⟩
  have Bx_w1 := Lib.hid ((hb1.block (w.heap.size) (by omega)).trans Bx_W1.out)
  have ltx_w1 : w.heap.size < w1.heap.size := lt_heap Bx_w1.out
  have D0_w1 := Lib.hid (D0_W1.out.below hb1)
  have Y0_w1 := Lib.hid (Y0_W1.out.below hb1)
  have Z0_w1 := Lib.hid (Z0_W1.out.below hb1)
  have bww1 := Lib.hid (bwW1.trans (hb1.mono bwW1.size))
  have szw1 : W1.heap.size ≤ w1.heap.size := hb1.size
  clear Bx_W1 ltx_W1 D0_W1 Y0_W1 Z0_W1
  clear kpW1 bwW1 inW1 hb1
  clear C1
  obtain ⟨⟨c0, c1, c2, c3⟩, ⟨cf0, cf1, cf2, cf3⟩⟩ := blk4 (Below.refl _ w1) Bx_w1.out (Nat.lt_succ_self _)
  go_wp2_with fail
  refine nameW fun W2 hW2 => ?_
  have kpW2 : Kp [w.heap.size] w1 W2 := by rw [hW2.out]; repeat (first | exact Kp.refl _ _ | refine Kp.alloc ?_ _ | refine Kp.setCell ?_ (by simp) _ _ | refine Kp.drew ?_ | refine Kp.drewN ?_ _)
  have bwW2 : Below w.heap.size w W2 := by rw [hW2.out]; repeat (first | exact bww1.out | refine Below.alloc ?_ (by (repeat (first | simp only [World.size_alloc] | simp only [size_set] | simp only [World.size_drew])); omega) _ | refine Below.setCell ?_ (by first | (dsimp only; omega) | omega) _ | refine Below.drew ?_ | refine below_drewN ?_ _)
  have szW2 : w1.heap.size ≤ W2.heap.size := kpW2.size
  have Bx_W2 : Hid (W2.heap[w.heap.size]? = some (.cells #[.slice sA0 d.sectors.length sc0, .slice pA0 d.pending.length pc0, .int .i64 d.left, .bool d.stopped] 25 (0, 0))) := by show _ = _; rw [hW2.out]; (repeat (first | simp only [heap_drew] | simp only [World.heap_drewN] | simp only [heap_alloc_if] | simp only [heap_set_if] | simp only [World.size_alloc] | simp only [size_set] | simp only [World.size_drew])); (repeat (first | rw [if_pos trivial] | rw [if_pos (by omega)] | rw [if_neg (by omega)])); exact Bx_w1.out
  have ltx_W2 : w.heap.size < W2.heap.size := lt_heap Bx_W2.out
  have inW2 : InW [w.heap.size] W2 := by intro b hb; simp at hb; omega
  have D0_W2 := Lib.hid ((D0_w1.out).kp kpW2)
  have Y0_W2 := Lib.hid ((Y0_w1.out).kp kpW2)
  have Z0_W2 := Lib.hid ((Z0_w1.out).kp kpW2)
  clear Bx_w1 ltx_w1 D0_w1 Y0_w1 Z0_w1 c0 c1 c2 c3 cf0 cf1 cf2 cf3
  have C2 := Lib.hid (few_any W2 (NB [w.heap.size]) d _ D0_W2.out hL)
  refine C2.out.mono ?_
  rintro e w2 ⟨fb, rfl, hsm, hb2⟩
  have HSM := Lib.hid hsm
  clear hsm
  have Bx_w2 := Lib.hid ((hb2.block (w.heap.size) (by omega)).trans Bx_W2.out)
  have ltx_w2 : w.heap.size < w2.heap.size := lt_heap Bx_w2.out
  have D0_w2 := Lib.hid (D0_W2.out.below hb2)
  have Y0_w2 := Lib.hid (Y0_W2.out.below hb2)
  have Z0_w2 := Lib.hid (Z0_W2.out.below hb2)
  have bww2 := Lib.hid (bwW2.trans (hb2.mono bwW2.size))
  have szw2 : W2.heap.size ≤ w2.heap.size := hb2.size
  clear Bx_W2 ltx_W2 D0_W2 Y0_W2 Z0_W2
  clear kpW2 bwW2 inW2 hb2
  clear C2
  cases fb with
  | false =>
    go_wp2_with fail
    go_ret
    exact ⟨rfl, bww2.out⟩
  | true =>
    have hl1 : ¬ (128 : Int) < (b.length : Int) := by omega
    have hl2 : ¬ (128 : Int) < (c.length : Int) := by omega
    obtain ⟨⟨c0, c1, c2, c3⟩, ⟨cf0, cf1, cf2, cf3⟩⟩ := blk4 (Below.refl _ w2) Bx_w2.out (Nat.lt_succ_self _)
    go_wp2_with fail
    refine nameW fun W3 hW3 => ?_
    have kpW3 : Kp [w.heap.size] w2 W3 := by rw [hW3.out]; repeat (first | exact Kp.refl _ _ | refine Kp.alloc ?_ _ | refine Kp.setCell ?_ (by simp) _ _ | refine Kp.drew ?_ | refine Kp.drewN ?_ _)
    have bwW3 : Below w.heap.size w W3 := by rw [hW3.out]; repeat (first | exact bww2.out | refine Below.alloc ?_ (by (repeat (first | simp only [World.size_alloc] | simp only [size_set] | simp only [World.size_drew])); omega) _ | refine Below.setCell ?_ (by first | (dsimp only; omega) | omega) _ | refine Below.drew ?_ | refine below_drewN ?_ _)
    have szW3 : w2.heap.size ≤ W3.heap.size := kpW3.size
    have Bx_W3 : Hid (W3.heap[w.heap.size]? = some (.cells #[.slice sA0 d.sectors.length sc0, .slice pA0 d.pending.length pc0, .int .i64 d.left, .bool d.stopped] 25 (0, 0))) := by show _ = _; rw [hW3.out]; (repeat (first | simp only [heap_drew] | simp only [World.heap_drewN] | simp only [heap_alloc_if] | simp only [heap_set_if] | simp only [World.size_alloc] | simp only [size_set] | simp only [World.size_drew])); (repeat (first | rw [if_pos trivial] | rw [if_pos (by omega)] | rw [if_neg (by omega)])); exact Bx_w2.out
    have ltx_W3 : w.heap.size < W3.heap.size := lt_heap Bx_W3.out
    have inW3 : InW [w.heap.size] W3 := by intro b hb; simp at hb; omega
    have D0_W3 := Lib.hid ((D0_w2.out).kp kpW3)
    have Y0_W3 := Lib.hid ((Y0_w2.out).kp kpW3)
    have Z0_W3 := Lib.hid ((Z0_w2.out).kp kpW3)
    clear Bx_w2 ltx_w2 D0_w2 Y0_w2 Z0_w2 c0 c1 c2 c3 cf0 cf1 cf2 cf3
    have C3 := Lib.hid (read_l [w.heap.size] W3 d _ D0_W3.out y)
    rw [HE3.out] at C3
    refine C3.out.mono ?_
    rintro e w3 ⟨v3, rfl, ⟨A3, c3, rfl, hD3⟩, hb3⟩
    have Bx_w3 := Lib.hid ((hb3.block (w.heap.size) (by omega)).trans Bx_W3.out)
    have ltx_w3 : w.heap.size < w3.heap.size := lt_heap Bx_w3.out
    have D0_w3 := Lib.hid (D0_W3.out.below hb3)
    have Y0_w3 := Lib.hid (Y0_W3.out.below hb3)
    have Z0_w3 := Lib.hid (Z0_W3.out.below hb3)
    have bww3 := Lib.hid (bwW3.trans (hb3.mono bwW3.size))
    have szw3 : W3.heap.size ≤ w3.heap.size := hb3.size
    clear Bx_W3 ltx_W3 D0_W3 Y0_W3 Z0_W3
    clear kpW3 bwW3 inW3 hb3
    have Y3_w3 : Hid (IsBytes w3 (NB [w.heap.size]) (.slice A3 rb.length c3) rb) := ⟨A3, c3, rfl, hD3⟩
    clear hD3 C3
    obtain ⟨⟨c0, c1, c2, c3⟩, ⟨cf0, cf1, cf2, cf3⟩⟩ := blk4 (Below.refl _ w3) Bx_w3.out (Nat.lt_succ_self _)
    go_wp2_with fail
    refine nameW fun W4 hW4 => ?_
    have kpW4 : Kp [w.heap.size] w3 W4 := by rw [hW4.out]; repeat (first | exact Kp.refl _ _ | refine Kp.alloc ?_ _ | refine Kp.setCell ?_ (by simp) _ _ | refine Kp.drew ?_ | refine Kp.drewN ?_ _)
    have bwW4 : Below w.heap.size w W4 := by rw [hW4.out]; repeat (first | exact bww3.out | refine Below.alloc ?_ (by (repeat (first | simp only [World.size_alloc] | simp only [size_set] | simp only [World.size_drew])); omega) _ | refine Below.setCell ?_ (by first | (dsimp only; omega) | omega) _ | refine Below.drew ?_ | refine below_drewN ?_ _)
    have szW4 : w3.heap.size ≤ W4.heap.size := kpW4.size
    have Bx_W4 : Hid (W4.heap[w.heap.size]? = some (.cells #[.slice sA0 d.sectors.length sc0, .slice pA0 d.pending.length pc0, .int .i64 d.left, .bool d.stopped] 25 (0, 0))) := by show _ = _; rw [hW4.out]; (repeat (first | simp only [heap_drew] | simp only [World.heap_drewN] | simp only [heap_alloc_if] | simp only [heap_set_if] | simp only [World.size_alloc] | simp only [size_set] | simp only [World.size_drew])); (repeat (first | rw [if_pos trivial] | rw [if_pos (by omega)] | rw [if_neg (by omega)])); exact Bx_w3.out
    have ltx_W4 : w.heap.size < W4.heap.size := lt_heap Bx_W4.out
    have inW4 : InW [w.heap.size] W4 := by intro b hb; simp at hb; omega
    have D0_W4 := Lib.hid ((D0_w3.out).kp kpW4)
    have Y0_W4 := Lib.hid ((Y0_w3.out).kp kpW4)
    have Z0_W4 := Lib.hid ((Z0_w3.out).kp kpW4)
    have Y3_W4 := Lib.hid ((Y3_w3.out).kp kpW4)
    clear Bx_w3 ltx_w3 D0_w3 Y0_w3 Z0_w3 Y3_w3 c0 c1 c2 c3 cf0 cf1 cf2 cf3
    have C4 := Lib.hid (write_l [w.heap.size] W4 inW4 d _ D0_W4.out x b _ Y0_W4.out)
    rw [HE4.out] at C4
    refine C4.out.mono ?_
    rintro e w4 ⟨v4, rfl, hD4, hb4⟩
    obtain ⟨sA4, sc4, pA4, pc4, rfl, -⟩ := hD4.parts
    have Bx_w4 := Lib.hid ((hb4.block (w.heap.size) (by omega)).trans Bx_W4.out)
    have ltx_w4 : w.heap.size < w4.heap.size := lt_heap Bx_w4.out
    have D0_w4 := Lib.hid (D0_W4.out.below hb4)
    have Y0_w4 := Lib.hid (Y0_W4.out.below hb4)
    have Z0_w4 := Lib.hid (Z0_W4.out.below hb4)
    have Y3_w4 := Lib.hid (Y3_W4.out.below hb4)
    have bww4 := Lib.hid (bwW4.trans (hb4.mono bwW4.size))
    have szw4 : W4.heap.size ≤ w4.heap.size := hb4.size
    clear Bx_W4 ltx_W4 D0_W4 Y0_W4 Z0_W4 Y3_W4
    clear kpW4 bwW4 inW4 hb4
    have D4_w4 := Lib.hid hD4
    clear hD4 C4
    go_wp2_with fail
    refine nameW fun W5 hW5 => ?_
    have kpW5 : Kp [w4.heap.size, w.heap.size] w4 W5 := by rw [hW5.out]; repeat (first | exact Kp.refl _ _ | refine Kp.alloc ?_ _ | refine Kp.setCell ?_ (by simp) _ _ | refine Kp.drew ?_ | refine Kp.drewN ?_ _)
    have bwW5 : Below w.heap.size w W5 := by rw [hW5.out]; repeat (first | exact bww4.out | refine Below.alloc ?_ (by (repeat (first | simp only [World.size_alloc] | simp only [size_set] | simp only [World.size_drew])); omega) _ | refine Below.setCell ?_ (by first | (dsimp only; omega) | omega) _ | refine Below.drew ?_ | refine below_drewN ?_ _)
    have szW5 : w4.heap.size ≤ W5.heap.size := kpW5.size
    have By4_W5 : Hid (W5.heap[w4.heap.size]? = some (.cells #[.slice sA4 dx.sectors.length sc4, .slice pA4 dx.pending.length pc4, .int .i64 dx.left, .bool dx.stopped] 25 (0, 0))) := by show _ = _; rw [hW5.out]; (repeat (first | simp only [heap_drew] | simp only [World.heap_drewN] | simp only [heap_alloc_if] | simp only [heap_set_if] | simp only [World.size_alloc] | simp only [size_set] | simp only [World.size_drew])); (repeat (first | rw [if_pos trivial] | rw [if_pos (by omega)] | rw [if_neg (by omega)]))
    have lty4_W5 : w4.heap.size < W5.heap.size := lt_heap By4_W5.out
    have mky4 : w4.heap.size < W5.heap.size := lty4_W5
    have Bx_W5 : Hid (W5.heap[w.heap.size]? = some (.cells #[.slice sA0 d.sectors.length sc0, .slice pA0 d.pending.length pc0, .int .i64 d.left, .bool d.stopped] 25 (0, 0))) := by show _ = _; rw [hW5.out]; (repeat (first | simp only [heap_drew] | simp only [World.heap_drewN] | simp only [heap_alloc_if] | simp only [heap_set_if] | simp only [World.size_alloc] | simp only [size_set] | simp only [World.size_drew])); (repeat (first | rw [if_pos trivial] | rw [if_pos (by omega)] | rw [if_neg (by omega)])); exact Bx_w4.out
    have ltx_W5 : w.heap.size < W5.heap.size := lt_heap Bx_W5.out
    have inW5 : InW [w4.heap.size, w.heap.size] W5 := by intro b hb; simp at hb; omega
    have D0_W5 := Lib.hid (((D0_w4.out).box (by omega)).kp kpW5)
    have Y0_W5 := Lib.hid (((Y0_w4.out).box (by omega)).kp kpW5)
    have Z0_W5 := Lib.hid (((Z0_w4.out).box (by omega)).kp kpW5)
    have Y3_W5 := Lib.hid (((Y3_w4.out).box (by omega)).kp kpW5)
    have D4_W5 := Lib.hid (((D4_w4.out).box (by omega)).kp kpW5)
    clear Bx_w4 ltx_w4 D0_w4 Y0_w4 Z0_w4 Y3_w4 D4_w4
    have C5 := Lib.hid (read_l [w4.heap.size, w.heap.size] W5 dx _ D4_W5.out y)
    rw [HE5.out] at C5
    refine C5.out.mono ?_
    rintro e w5 ⟨v5, rfl, ⟨A5, c5, rfl, hD5⟩, hb5⟩
    have Bx_w5 := Lib.hid ((hb5.block (w.heap.size) (by omega)).trans Bx_W5.out)
    have ltx_w5 : w.heap.size < w5.heap.size := lt_heap Bx_w5.out
    have By4_w5 := Lib.hid ((hb5.block (w4.heap.size) (by omega)).trans By4_W5.out)
    have lty4_w5 : w4.heap.size < w5.heap.size := lt_heap By4_w5.out
    have D0_w5 := Lib.hid (D0_W5.out.below hb5)
    have Y0_w5 := Lib.hid (Y0_W5.out.below hb5)
    have Z0_w5 := Lib.hid (Z0_W5.out.below hb5)
    have Y3_w5 := Lib.hid (Y3_W5.out.below hb5)
    have D4_w5 := Lib.hid (D4_W5.out.below hb5)
    have bww5 := Lib.hid (bwW5.trans (hb5.mono bwW5.size))
    have szw5 : W5.heap.size ≤ w5.heap.size := hb5.size
    clear Bx_W5 By4_W5 ltx_W5 lty4_W5 D0_W5 Y0_W5 Z0_W5 Y3_W5 D4_W5
    clear kpW5 bwW5 inW5 hb5
    have Y5_w5 : Hid (IsBytes w5 (NB [w4.heap.size, w.heap.size]) (.slice A5 ra.length c5) ra) := ⟨A5, c5, rfl, hD5⟩
    clear hD5 C5
    obtain ⟨⟨c0, c1, c2, c3⟩, ⟨cf0, cf1, cf2, cf3⟩⟩ := blk4 (Below.refl _ w5) By4_w5.out (Nat.lt_succ_self _)
    go_wp2_with fail
    refine nameW fun W6 hW6 => ?_
    have kpW6 : Kp [w4.heap.size, w.heap.size] w5 W6 := by rw [hW6.out]; repeat (first | exact Kp.refl _ _ | refine Kp.alloc ?_ _ | refine Kp.setCell ?_ (by simp) _ _ | refine Kp.drew ?_ | refine Kp.drewN ?_ _)
    have bwW6 : Below w.heap.size w W6 := by rw [hW6.out]; repeat (first | exact bww5.out | refine Below.alloc ?_ (by (repeat (first | simp only [World.size_alloc] | simp only [size_set] | simp only [World.size_drew])); omega) _ | refine Below.setCell ?_ (by first | (dsimp only; omega) | omega) _ | refine Below.drew ?_ | refine below_drewN ?_ _)
    have szW6 : w5.heap.size ≤ W6.heap.size := kpW6.size
    have Bx_W6 : Hid (W6.heap[w.heap.size]? = some (.cells #[.slice sA0 d.sectors.length sc0, .slice pA0 d.pending.length pc0, .int .i64 d.left, .bool d.stopped] 25 (0, 0))) := by show _ = _; rw [hW6.out]; (repeat (first | simp only [heap_drew] | simp only [World.heap_drewN] | simp only [heap_alloc_if] | simp only [heap_set_if] | simp only [World.size_alloc] | simp only [size_set] | simp only [World.size_drew])); (repeat (first | rw [if_pos trivial] | rw [if_pos (by omega)] | rw [if_neg (by omega)])); exact Bx_w5.out
    have ltx_W6 : w.heap.size < W6.heap.size := lt_heap Bx_W6.out
    have By4_W6 : Hid (W6.heap[w4.heap.size]? = some (.cells #[.slice sA4 dx.sectors.length sc4, .slice pA4 dx.pending.length pc4, .int .i64 dx.left, .bool dx.stopped] 25 (0, 0))) := by show _ = _; rw [hW6.out]; (repeat (first | simp only [heap_drew] | simp only [World.heap_drewN] | simp only [heap_alloc_if] | simp only [heap_set_if] | simp only [World.size_alloc] | simp only [size_set] | simp only [World.size_drew])); (repeat (first | rw [if_pos trivial] | rw [if_pos (by omega)] | rw [if_neg (by omega)])); exact By4_w5.out
    have lty4_W6 : w4.heap.size < W6.heap.size := lt_heap By4_W6.out
    have inW6 : InW [w4.heap.size, w.heap.size] W6 := by intro b hb; simp at hb; omega
    have D0_W6 := Lib.hid ((D0_w5.out).kp kpW6)
    have Y0_W6 := Lib.hid ((Y0_w5.out).kp kpW6)
    have Z0_W6 := Lib.hid ((Z0_w5.out).kp kpW6)
    have Y3_W6 := Lib.hid ((Y3_w5.out).kp kpW6)
    have D4_W6 := Lib.hid ((D4_w5.out).kp kpW6)
    have Y5_W6 := Lib.hid ((Y5_w5.out).kp kpW6)
    clear Bx_w5 By4_w5 ltx_w5 lty4_w5 D0_w5 Y0_w5 Z0_w5 Y3_w5 D4_w5 Y5_w5 c0 c1 c2 c3 cf0 cf1 cf2 cf3
    have C6 := Lib.hid (read_l [w4.heap.size, w.heap.size] W6 dx _ D4_W6.out x)
    rw [HE6.out] at C6
    refine C6.out.mono ?_
    rintro e w6 ⟨v6, rfl, ⟨A6, c6, rfl, hD6⟩, hb6⟩
    have Bx_w6 := Lib.hid ((hb6.block (w.heap.size) (by omega)).trans Bx_W6.out)
    have ltx_w6 : w.heap.size < w6.heap.size := lt_heap Bx_w6.out
    have By4_w6 := Lib.hid ((hb6.block (w4.heap.size) (by omega)).trans By4_W6.out)
    have lty4_w6 : w4.heap.size < w6.heap.size := lt_heap By4_w6.out
    have D0_w6 := Lib.hid (D0_W6.out.below hb6)
    have Y0_w6 := Lib.hid (Y0_W6.out.below hb6)
    have Z0_w6 := Lib.hid (Z0_W6.out.below hb6)
    have Y3_w6 := Lib.hid (Y3_W6.out.below hb6)
    have D4_w6 := Lib.hid (D4_W6.out.below hb6)
    have Y5_w6 := Lib.hid (Y5_W6.out.below hb6)
    have bww6 := Lib.hid (bwW6.trans (hb6.mono bwW6.size))
    have szw6 : W6.heap.size ≤ w6.heap.size := hb6.size
    clear Bx_W6 By4_W6 ltx_W6 lty4_W6 D0_W6 Y0_W6 Z0_W6 Y3_W6 D4_W6 Y5_W6
    clear kpW6 bwW6 inW6 hb6
    have Y6_w6 : Hid (IsBytes w6 (NB [w4.heap.size, w.heap.size]) (.slice A6 pb.length c6) pb) := ⟨A6, c6, rfl, hD6⟩
    clear hD6 C6
    go_upto_region 11 with fail
    go_cut [106] (fun s wx => s = .bool false ∧ Hid (∃ m, wx = w6.drewN m))
    case first =>
      have hcb := fun nq => conv_take (w := w6.drewN nq) hs hpl HPT.out (Y6_w6.out)
      have hc0 := fun nq => conv_any (w := w6.drewN nq) Y0_w6.out
      have hcr := fun nq => conv_any (w := w6.drewN nq) Y3_w6.out
      have hca := fun nq => conv_any (w := w6.drewN nq) Y5_w6.out
      have hcap := cap_of Y6_w6.out
      rw [hpl] at hcap
      have hb0 : (0 : Int) ≤ (b.length : Int) := by omega
      have hb128 : (b.length : Int) ≤ 128 := by omega
      by_cases hxy : x = y
      · have hx1 : (x != y) = false := by simp [hxy]
        clear hxy her
        go_quiet (fail)
        go_wp2_with fail
        go_meet
        exact ⟨rfl, _, rfl⟩
      · have hx1 : (x != y) = true := by simp [hxy]
        have her' := her hxy
        clear hxy her
        rw [her'] at hca
        go_quiet (fail)
        go_wp2_with fail
        go_meet
        exact ⟨rfl, _, rfl⟩
    case rest =>
      obtain ⟨rfl, HC⟩ := hcut
      have hbl : Below w6.heap.size w6 wc := by obtain ⟨m, e⟩ := HC.out; rw [e]; exact below_drewN (Below.refl _ _) _
      have bww6 := bww6.out
      have kpw6 : True := trivial
      have inw6 : True := trivial
      have Bx_wc := Lib.hid ((hbl.block (w.heap.size) (by omega)).trans Bx_w6.out)
      have ltx_wc : w.heap.size < wc.heap.size := lt_heap Bx_wc.out
      have By4_wc := Lib.hid ((hbl.block (w4.heap.size) (by omega)).trans By4_w6.out)
      have lty4_wc : w4.heap.size < wc.heap.size := lt_heap By4_wc.out
      have D0_wc := Lib.hid (D0_w6.out.below hbl)
      have Y0_wc := Lib.hid (Y0_w6.out.below hbl)
      have Z0_wc := Lib.hid (Z0_w6.out.below hbl)
      have Y3_wc := Lib.hid (Y3_w6.out.below hbl)
      have D4_wc := Lib.hid (D4_w6.out.below hbl)
      have Y5_wc := Lib.hid (Y5_w6.out.below hbl)
      have Y6_wc := Lib.hid (Y6_w6.out.below hbl)
      have bwwc := Lib.hid (bww6.trans (hbl.mono bww6.size))
      have szwc : w6.heap.size ≤ wc.heap.size := hbl.size
      clear Bx_w6 By4_w6 ltx_w6 lty4_w6 D0_w6 Y0_w6 Z0_w6 Y3_w6 D4_w6 Y5_w6 Y6_w6
      clear kpw6 bww6 inw6 hbl
      obtain ⟨⟨c0, c1, c2, c3⟩, ⟨cf0, cf1, cf2, cf3⟩⟩ := blk4 (Below.refl _ wc) By4_wc.out (Nat.lt_succ_self _)
      go_wp2_with fail
      refine nameW fun W7 hW7 => ?_
      have kpW7 : Kp [w4.heap.size, w.heap.size] wc W7 := by rw [hW7.out]; repeat (first | exact Kp.refl _ _ | refine Kp.alloc ?_ _ | refine Kp.setCell ?_ (by simp) _ _ | refine Kp.drew ?_ | refine Kp.drewN ?_ _)
      have bwW7 : Below w.heap.size w W7 := by rw [hW7.out]; repeat (first | exact bwwc.out | refine Below.alloc ?_ (by (repeat (first | simp only [World.size_alloc] | simp only [size_set] | simp only [World.size_drew])); omega) _ | refine Below.setCell ?_ (by first | (dsimp only; omega) | omega) _ | refine Below.drew ?_ | refine below_drewN ?_ _)
      have szW7 : wc.heap.size ≤ W7.heap.size := kpW7.size
      have Bx_W7 : Hid (W7.heap[w.heap.size]? = some (.cells #[.slice sA0 d.sectors.length sc0, .slice pA0 d.pending.length pc0, .int .i64 d.left, .bool d.stopped] 25 (0, 0))) := by show _ = _; rw [hW7.out]; (repeat (first | simp only [heap_drew] | simp only [World.heap_drewN] | simp only [heap_alloc_if] | simp only [heap_set_if] | simp only [World.size_alloc] | simp only [size_set] | simp only [World.size_drew])); (repeat (first | rw [if_pos trivial] | rw [if_pos (by omega)] | rw [if_neg (by omega)])); exact Bx_wc.out
      have ltx_W7 : w.heap.size < W7.heap.size := lt_heap Bx_W7.out
      have By4_W7 : Hid (W7.heap[w4.heap.size]? = some (.cells #[.slice sA4 dx.sectors.length sc4, .slice pA4 dx.pending.length pc4, .int .i64 dx.left, .bool dx.stopped] 25 (0, 0))) := by show _ = _; rw [hW7.out]; (repeat (first | simp only [heap_drew] | simp only [World.heap_drewN] | simp only [heap_alloc_if] | simp only [heap_set_if] | simp only [World.size_alloc] | simp only [size_set] | simp only [World.size_drew])); (repeat (first | rw [if_pos trivial] | rw [if_pos (by omega)] | rw [if_neg (by omega)])); exact By4_wc.out
      have lty4_W7 : w4.heap.size < W7.heap.size := lt_heap By4_W7.out
      have inW7 : InW [w4.heap.size, w.heap.size] W7 := by intro b hb; simp at hb; omega
      have D0_W7 := Lib.hid ((D0_wc.out).kp kpW7)
      have Y0_W7 := Lib.hid ((Y0_wc.out).kp kpW7)
      have Z0_W7 := Lib.hid ((Z0_wc.out).kp kpW7)
      have Y3_W7 := Lib.hid ((Y3_wc.out).kp kpW7)
      have D4_W7 := Lib.hid ((D4_wc.out).kp kpW7)
      have Y5_W7 := Lib.hid ((Y5_wc.out).kp kpW7)
      have Y6_W7 := Lib.hid ((Y6_wc.out).kp kpW7)
      clear Bx_wc By4_wc ltx_wc lty4_wc D0_wc Y0_wc Z0_wc Y3_wc D4_wc Y5_wc Y6_wc c0 c1 c2 c3 cf0 cf1 cf2 cf3
      have C7 := Lib.hid (write_l [w4.heap.size, w.heap.size] W7 inW7 dx _ D4_W7.out y c _ Z0_W7.out)
      rw [HE7.out] at C7
      refine C7.out.mono ?_
      rintro e w7 ⟨v7, rfl, hD7, hb7⟩
      obtain ⟨sA7, sc7, pA7, pc7, rfl, -⟩ := hD7.parts
      have Bx_w7 := Lib.hid ((hb7.block (w.heap.size) (by omega)).trans Bx_W7.out)
      have ltx_w7 : w.heap.size < w7.heap.size := lt_heap Bx_w7.out
      have By4_w7 := Lib.hid ((hb7.block (w4.heap.size) (by omega)).trans By4_W7.out)
      have lty4_w7 : w4.heap.size < w7.heap.size := lt_heap By4_w7.out
      have D0_w7 := Lib.hid (D0_W7.out.below hb7)
      have Y0_w7 := Lib.hid (Y0_W7.out.below hb7)
      have Z0_w7 := Lib.hid (Z0_W7.out.below hb7)
      have Y3_w7 := Lib.hid (Y3_W7.out.below hb7)
      have D4_w7 := Lib.hid (D4_W7.out.below hb7)
      have Y5_w7 := Lib.hid (Y5_W7.out.below hb7)
      have Y6_w7 := Lib.hid (Y6_W7.out.below hb7)
      have bww7 := Lib.hid (bwW7.trans (hb7.mono bwW7.size))
      have szw7 : W7.heap.size ≤ w7.heap.size := hb7.size
      clear Bx_W7 By4_W7 ltx_W7 lty4_W7 D0_W7 Y0_W7 Z0_W7 Y3_W7 D4_W7 Y5_W7 Y6_W7
      clear kpW7 bwW7 inW7 hb7
      have D7_w7 := Lib.hid hD7
      clear hD7 C7
      go_wp2_with fail
      refine nameW fun W8 hW8 => ?_
      have kpW8 : Kp [w7.heap.size, w4.heap.size, w.heap.size] w7 W8 := by rw [hW8.out]; repeat (first | exact Kp.refl _ _ | refine Kp.alloc ?_ _ | refine Kp.setCell ?_ (by simp) _ _ | refine Kp.drew ?_ | refine Kp.drewN ?_ _)
      have bwW8 : Below w.heap.size w W8 := by rw [hW8.out]; repeat (first | exact bww7.out | refine Below.alloc ?_ (by (repeat (first | simp only [World.size_alloc] | simp only [size_set] | simp only [World.size_drew])); omega) _ | refine Below.setCell ?_ (by first | (dsimp only; omega) | omega) _ | refine Below.drew ?_ | refine below_drewN ?_ _)
      have szW8 : w7.heap.size ≤ W8.heap.size := kpW8.size
      have By7_W8 : Hid (W8.heap[w7.heap.size]? = some (.cells #[.slice sA7 dd.sectors.length sc7, .slice pA7 dd.pending.length pc7, .int .i64 dd.left, .bool dd.stopped] 25 (0, 0))) := by show _ = _; rw [hW8.out]; (repeat (first | simp only [heap_drew] | simp only [World.heap_drewN] | simp only [heap_alloc_if] | simp only [heap_set_if] | simp only [World.size_alloc] | simp only [size_set] | simp only [World.size_drew])); (repeat (first | rw [if_pos trivial] | rw [if_pos (by omega)] | rw [if_neg (by omega)]))
      have lty7_W8 : w7.heap.size < W8.heap.size := lt_heap By7_W8.out
      have mky7 : w7.heap.size < W8.heap.size := lty7_W8
      have Bx_W8 : Hid (W8.heap[w.heap.size]? = some (.cells #[.slice sA0 d.sectors.length sc0, .slice pA0 d.pending.length pc0, .int .i64 d.left, .bool d.stopped] 25 (0, 0))) := by show _ = _; rw [hW8.out]; (repeat (first | simp only [heap_drew] | simp only [World.heap_drewN] | simp only [heap_alloc_if] | simp only [heap_set_if] | simp only [World.size_alloc] | simp only [size_set] | simp only [World.size_drew])); (repeat (first | rw [if_pos trivial] | rw [if_pos (by omega)] | rw [if_neg (by omega)])); exact Bx_w7.out
      have ltx_W8 : w.heap.size < W8.heap.size := lt_heap Bx_W8.out
      have By4_W8 : Hid (W8.heap[w4.heap.size]? = some (.cells #[.slice sA4 dx.sectors.length sc4, .slice pA4 dx.pending.length pc4, .int .i64 dx.left, .bool dx.stopped] 25 (0, 0))) := by show _ = _; rw [hW8.out]; (repeat (first | simp only [heap_drew] | simp only [World.heap_drewN] | simp only [heap_alloc_if] | simp only [heap_set_if] | simp only [World.size_alloc] | simp only [size_set] | simp only [World.size_drew])); (repeat (first | rw [if_pos trivial] | rw [if_pos (by omega)] | rw [if_neg (by omega)])); exact By4_w7.out
      have lty4_W8 : w4.heap.size < W8.heap.size := lt_heap By4_W8.out
      have inW8 : InW [w7.heap.size, w4.heap.size, w.heap.size] W8 := by intro b hb; simp at hb; omega
      have D0_W8 := Lib.hid (((D0_w7.out).box (by omega)).kp kpW8)
      have Y0_W8 := Lib.hid (((Y0_w7.out).box (by omega)).kp kpW8)
      have Z0_W8 := Lib.hid (((Z0_w7.out).box (by omega)).kp kpW8)
      have Y3_W8 := Lib.hid (((Y3_w7.out).box (by omega)).kp kpW8)
      have D4_W8 := Lib.hid (((D4_w7.out).box (by omega)).kp kpW8)
      have Y5_W8 := Lib.hid (((Y5_w7.out).box (by omega)).kp kpW8)
      have Y6_W8 := Lib.hid (((Y6_w7.out).box (by omega)).kp kpW8)
      have D7_W8 := Lib.hid (((D7_w7.out).box (by omega)).kp kpW8)
      clear Bx_w7 By4_w7 ltx_w7 lty4_w7 D0_w7 Y0_w7 Z0_w7 Y3_w7 D4_w7 Y5_w7 Y6_w7 D7_w7
      have C8 := Lib.hid (sync_l [w7.heap.size, w4.heap.size, w.heap.size] W8 inW8 dd _ D7_W8.out)
      rw [HE8.out] at C8
      refine C8.out.mono ?_
      rintro e w8 ⟨v8, rfl, hD8, hb8⟩
      obtain ⟨sA8, sc8, pA8, pc8, rfl, -⟩ := hD8.parts
      have Bx_w8 := Lib.hid ((hb8.block (w.heap.size) (by omega)).trans Bx_W8.out)
      have ltx_w8 : w.heap.size < w8.heap.size := lt_heap Bx_w8.out
      have By4_w8 := Lib.hid ((hb8.block (w4.heap.size) (by omega)).trans By4_W8.out)
      have lty4_w8 : w4.heap.size < w8.heap.size := lt_heap By4_w8.out
      have By7_w8 := Lib.hid ((hb8.block (w7.heap.size) (by omega)).trans By7_W8.out)
      have lty7_w8 : w7.heap.size < w8.heap.size := lt_heap By7_w8.out
      have D0_w8 := Lib.hid (D0_W8.out.below hb8)
      have Y0_w8 := Lib.hid (Y0_W8.out.below hb8)
      have Z0_w8 := Lib.hid (Z0_W8.out.below hb8)
      have Y3_w8 := Lib.hid (Y3_W8.out.below hb8)
      have D4_w8 := Lib.hid (D4_W8.out.below hb8)
      have Y5_w8 := Lib.hid (Y5_W8.out.below hb8)
      have Y6_w8 := Lib.hid (Y6_W8.out.below hb8)
      have D7_w8 := Lib.hid (D7_W8.out.below hb8)
      have bww8 := Lib.hid (bwW8.trans (hb8.mono bwW8.size))
      have szw8 : W8.heap.size ≤ w8.heap.size := hb8.size
      clear Bx_W8 By4_W8 By7_W8 ltx_W8 lty4_W8 lty7_W8 D0_W8 Y0_W8 Z0_W8 Y3_W8 D4_W8 Y5_W8 Y6_W8 D7_W8
      clear kpW8 bwW8 inW8 hb8
      have D8_w8 := Lib.hid hD8
      clear hD8 C8
      go_wp2_with fail
      refine nameC fun WQ hWQ => ?_
      have kpWQ : Kp [w8.heap.size, w7.heap.size, w4.heap.size, w.heap.size] w8 WQ := by rw [hWQ.out]; repeat (first | exact Kp.refl _ _ | refine Kp.alloc ?_ _ | refine Kp.setCell ?_ (by simp) _ _ | refine Kp.drew ?_ | refine Kp.drewN ?_ _)
      have bwWQ : Below w.heap.size w WQ := by rw [hWQ.out]; repeat (first | exact bww8.out | refine Below.alloc ?_ (by (repeat (first | simp only [World.size_alloc] | simp only [size_set] | simp only [World.size_drew])); omega) _ | refine Below.setCell ?_ (by first | (dsimp only; omega) | omega) _ | refine Below.drew ?_ | refine below_drewN ?_ _)
      have szWQ : w8.heap.size ≤ WQ.heap.size := kpWQ.size
      have By8_WQ : Hid (WQ.heap[w8.heap.size]? = some (.cells #[.slice sA8 dz.sectors.length sc8, .slice pA8 dz.pending.length pc8, .int .i64 dz.left, .bool dz.stopped] 25 (0, 0))) := by show _ = _; rw [hWQ.out]; (repeat (first | simp only [heap_drew] | simp only [World.heap_drewN] | simp only [heap_alloc_if] | simp only [heap_set_if] | simp only [World.size_alloc] | simp only [size_set] | simp only [World.size_drew])); (repeat (first | rw [if_pos trivial] | rw [if_pos (by omega)] | rw [if_neg (by omega)]))
      have lty8_WQ : w8.heap.size < WQ.heap.size := lt_heap By8_WQ.out
      have mky8 : w8.heap.size < WQ.heap.size := lty8_WQ
      have Bx_WQ : Hid (WQ.heap[w.heap.size]? = some (.cells #[.slice sA0 d.sectors.length sc0, .slice pA0 d.pending.length pc0, .int .i64 d.left, .bool d.stopped] 25 (0, 0))) := by show _ = _; rw [hWQ.out]; (repeat (first | simp only [heap_drew] | simp only [World.heap_drewN] | simp only [heap_alloc_if] | simp only [heap_set_if] | simp only [World.size_alloc] | simp only [size_set] | simp only [World.size_drew])); (repeat (first | rw [if_pos trivial] | rw [if_pos (by omega)] | rw [if_neg (by omega)])); exact Bx_w8.out
      have ltx_WQ : w.heap.size < WQ.heap.size := lt_heap Bx_WQ.out
      have By4_WQ : Hid (WQ.heap[w4.heap.size]? = some (.cells #[.slice sA4 dx.sectors.length sc4, .slice pA4 dx.pending.length pc4, .int .i64 dx.left, .bool dx.stopped] 25 (0, 0))) := by show _ = _; rw [hWQ.out]; (repeat (first | simp only [heap_drew] | simp only [World.heap_drewN] | simp only [heap_alloc_if] | simp only [heap_set_if] | simp only [World.size_alloc] | simp only [size_set] | simp only [World.size_drew])); (repeat (first | rw [if_pos trivial] | rw [if_pos (by omega)] | rw [if_neg (by omega)])); exact By4_w8.out
      have lty4_WQ : w4.heap.size < WQ.heap.size := lt_heap By4_WQ.out
      have By7_WQ : Hid (WQ.heap[w7.heap.size]? = some (.cells #[.slice sA7 dd.sectors.length sc7, .slice pA7 dd.pending.length pc7, .int .i64 dd.left, .bool dd.stopped] 25 (0, 0))) := by show _ = _; rw [hWQ.out]; (repeat (first | simp only [heap_drew] | simp only [World.heap_drewN] | simp only [heap_alloc_if] | simp only [heap_set_if] | simp only [World.size_alloc] | simp only [size_set] | simp only [World.size_drew])); (repeat (first | rw [if_pos trivial] | rw [if_pos (by omega)] | rw [if_neg (by omega)])); exact By7_w8.out
      have lty7_WQ : w7.heap.size < WQ.heap.size := lt_heap By7_WQ.out
      have inWQ : InW [w8.heap.size, w7.heap.size, w4.heap.size, w.heap.size] WQ := by intro b hb; simp at hb; omega
      have D0_WQ := Lib.hid (((D0_w8.out).box (by omega)).kp kpWQ)
      have Y0_WQ := Lib.hid (((Y0_w8.out).box (by omega)).kp kpWQ)
      have Z0_WQ := Lib.hid (((Z0_w8.out).box (by omega)).kp kpWQ)
      have Y3_WQ := Lib.hid (((Y3_w8.out).box (by omega)).kp kpWQ)
      have D4_WQ := Lib.hid (((D4_w8.out).box (by omega)).kp kpWQ)
      have Y5_WQ := Lib.hid (((Y5_w8.out).box (by omega)).kp kpWQ)
      have Y6_WQ := Lib.hid (((Y6_w8.out).box (by omega)).kp kpWQ)
      have D7_WQ := Lib.hid (((D7_w8.out).box (by omega)).kp kpWQ)
      have D8_WQ := Lib.hid (((D8_w8.out).box (by omega)).kp kpWQ)
      clear Bx_w8 By4_w8 By7_w8 ltx_w8 lty4_w8 lty7_w8 D0_w8 Y0_w8 Z0_w8 Y3_w8 D4_w8 Y5_w8 Y6_w8 D7_w8 D8_w8
      have HBWQ := Lib.hid bwWQ
      clear bwWQ kpWQ inWQ hWQ
      go_loopw [23] (fun i wr => ∃ k : Nat, k ≤ d.sectors.length ∧ i = .int .i64 k ∧ Hid (Below WQ.heap.size WQ wr)) (fun i _ => d.sectors.length - (intOf i).toNat)
      case atStart => exact ⟨0, Nat.zero_le _, rfl, Below.refl _ _⟩
      case round =>
        obtain ⟨k, hk, rfl, HBr⟩ := hrel
        have hbr := HBr.out
        have bwWQ := HBWQ.out
        have kpWQ : True := trivial
        have inWQ : True := trivial
        have Bx_wr := Lib.hid ((hbr.block (w.heap.size) (by omega)).trans Bx_WQ.out)
        have ltx_wr : w.heap.size < wr.heap.size := lt_heap Bx_wr.out
        have By4_wr := Lib.hid ((hbr.block (w4.heap.size) (by omega)).trans By4_WQ.out)
        have lty4_wr : w4.heap.size < wr.heap.size := lt_heap By4_wr.out
        have By7_wr := Lib.hid ((hbr.block (w7.heap.size) (by omega)).trans By7_WQ.out)
        have lty7_wr : w7.heap.size < wr.heap.size := lt_heap By7_wr.out
        have By8_wr := Lib.hid ((hbr.block (w8.heap.size) (by omega)).trans By8_WQ.out)
        have lty8_wr : w8.heap.size < wr.heap.size := lt_heap By8_wr.out
        have D0_wr := Lib.hid (D0_WQ.out.below hbr)
        have Y0_wr := Lib.hid (Y0_WQ.out.below hbr)
        have Z0_wr := Lib.hid (Z0_WQ.out.below hbr)
        have Y3_wr := Lib.hid (Y3_WQ.out.below hbr)
        have D4_wr := Lib.hid (D4_WQ.out.below hbr)
        have Y5_wr := Lib.hid (Y5_WQ.out.below hbr)
        have Y6_wr := Lib.hid (Y6_WQ.out.below hbr)
        have D7_wr := Lib.hid (D7_WQ.out.below hbr)
        have D8_wr := Lib.hid (D8_WQ.out.below hbr)
        have bwwr := Lib.hid (bwWQ.trans (hbr.mono bwWQ.size))
        have szwr : WQ.heap.size ≤ wr.heap.size := hbr.size
        clear Bx_WQ By4_WQ By7_WQ By8_WQ ltx_WQ lty4_WQ lty7_WQ lty8_WQ D0_WQ Y0_WQ Z0_WQ Y3_WQ D4_WQ Y5_WQ Y6_WQ D7_WQ D8_WQ
        clear kpWQ bwWQ inWQ hbr
        obtain ⟨⟨c0, c1, c2, c3⟩, ⟨cf0, cf1, cf2, cf3⟩⟩ := blk4 (Below.refl _ wr) Bx_wr.out (Nat.lt_succ_self _)
        by_cases hlt : k < d.sectors.length
        · have hlt' : (k : Int) < (d.sectors.length : Int) := by omega
          have TB_wr := HBr
          obtain ⟨rk, hk1, hk2⟩ := hread k hlt
          have HK1 := Lib.hid hk1
          have HK2 := Lib.hid hk2
          clear hk1 hk2
          obtain ⟨⟨d0, d1, d2, d3⟩, ⟨df0, df1, df2, df3⟩⟩ := blk4 (Below.refl _ wr) By7_wr.out (Nat.lt_succ_self _)
          go_wp2_with fail
          refine nameW fun W9 hW9 => ?_
          have kpW9 : Kp [w8.heap.size, w7.heap.size, w4.heap.size, w.heap.size] wr W9 := by rw [hW9.out]; repeat (first | exact Kp.refl _ _ | refine Kp.alloc ?_ _ | refine Kp.setCell ?_ (by simp) _ _ | refine Kp.drew ?_ | refine Kp.drewN ?_ _)
          have bwW9 : Below w.heap.size w W9 := by rw [hW9.out]; repeat (first | exact bwwr.out | refine Below.alloc ?_ (by (repeat (first | simp only [World.size_alloc] | simp only [size_set] | simp only [World.size_drew])); omega) _ | refine Below.setCell ?_ (by first | (dsimp only; omega) | omega) _ | refine Below.drew ?_ | refine below_drewN ?_ _)
          have szW9 : wr.heap.size ≤ W9.heap.size := kpW9.size
          have Bx_W9 : Hid (W9.heap[w.heap.size]? = some (.cells #[.slice sA0 d.sectors.length sc0, .slice pA0 d.pending.length pc0, .int .i64 d.left, .bool d.stopped] 25 (0, 0))) := by show _ = _; rw [hW9.out]; (repeat (first | simp only [heap_drew] | simp only [World.heap_drewN] | simp only [heap_alloc_if] | simp only [heap_set_if] | simp only [World.size_alloc] | simp only [size_set] | simp only [World.size_drew])); (repeat (first | rw [if_pos trivial] | rw [if_pos (by omega)] | rw [if_neg (by omega)])); exact Bx_wr.out
          have ltx_W9 : w.heap.size < W9.heap.size := lt_heap Bx_W9.out
          have By4_W9 : Hid (W9.heap[w4.heap.size]? = some (.cells #[.slice sA4 dx.sectors.length sc4, .slice pA4 dx.pending.length pc4, .int .i64 dx.left, .bool dx.stopped] 25 (0, 0))) := by show _ = _; rw [hW9.out]; (repeat (first | simp only [heap_drew] | simp only [World.heap_drewN] | simp only [heap_alloc_if] | simp only [heap_set_if] | simp only [World.size_alloc] | simp only [size_set] | simp only [World.size_drew])); (repeat (first | rw [if_pos trivial] | rw [if_pos (by omega)] | rw [if_neg (by omega)])); exact By4_wr.out
          have lty4_W9 : w4.heap.size < W9.heap.size := lt_heap By4_W9.out
          have By7_W9 : Hid (W9.heap[w7.heap.size]? = some (.cells #[.slice sA7 dd.sectors.length sc7, .slice pA7 dd.pending.length pc7, .int .i64 dd.left, .bool dd.stopped] 25 (0, 0))) := by show _ = _; rw [hW9.out]; (repeat (first | simp only [heap_drew] | simp only [World.heap_drewN] | simp only [heap_alloc_if] | simp only [heap_set_if] | simp only [World.size_alloc] | simp only [size_set] | simp only [World.size_drew])); (repeat (first | rw [if_pos trivial] | rw [if_pos (by omega)] | rw [if_neg (by omega)])); exact By7_wr.out
          have lty7_W9 : w7.heap.size < W9.heap.size := lt_heap By7_W9.out
          have By8_W9 : Hid (W9.heap[w8.heap.size]? = some (.cells #[.slice sA8 dz.sectors.length sc8, .slice pA8 dz.pending.length pc8, .int .i64 dz.left, .bool dz.stopped] 25 (0, 0))) := by show _ = _; rw [hW9.out]; (repeat (first | simp only [heap_drew] | simp only [World.heap_drewN] | simp only [heap_alloc_if] | simp only [heap_set_if] | simp only [World.size_alloc] | simp only [size_set] | simp only [World.size_drew])); (repeat (first | rw [if_pos trivial] | rw [if_pos (by omega)] | rw [if_neg (by omega)])); exact By8_wr.out
          have lty8_W9 : w8.heap.size < W9.heap.size := lt_heap By8_W9.out
          have inW9 : InW [w8.heap.size, w7.heap.size, w4.heap.size, w.heap.size] W9 := by intro b hb; simp at hb; omega
          have TB_W9 : Hid (Below WQ.heap.size WQ W9) := by show Below _ _ _; rw [hW9.out]; repeat (first | exact TB_wr.out | refine Below.alloc ?_ (by (repeat (first | simp only [World.size_alloc] | simp only [size_set] | simp only [World.size_drew])); have := TB_wr.out.size; omega) _ | refine Below.setCell ?_ (by first | (dsimp only; omega) | omega) _ | refine Below.drew ?_ | refine below_drewN ?_ _)
          have D0_W9 := Lib.hid ((D0_wr.out).kp kpW9)
          have Y0_W9 := Lib.hid ((Y0_wr.out).kp kpW9)
          have Z0_W9 := Lib.hid ((Z0_wr.out).kp kpW9)
          have Y3_W9 := Lib.hid ((Y3_wr.out).kp kpW9)
          have D4_W9 := Lib.hid ((D4_wr.out).kp kpW9)
          have Y5_W9 := Lib.hid ((Y5_wr.out).kp kpW9)
          have Y6_W9 := Lib.hid ((Y6_wr.out).kp kpW9)
          have D7_W9 := Lib.hid ((D7_wr.out).kp kpW9)
          have D8_W9 := Lib.hid ((D8_wr.out).kp kpW9)
          clear Bx_wr By4_wr By7_wr By8_wr ltx_wr lty4_wr lty7_wr lty8_wr D0_wr Y0_wr Z0_wr Y3_wr D4_wr Y5_wr Y6_wr D7_wr D8_wr TB_wr c0 c1 c2 c3 cf0 cf1 cf2 cf3 d0 d1 d2 d3 df0 df1 df2 df3
          have C10 := Lib.hid (read_l [w8.heap.size, w7.heap.size, w4.heap.size, w.heap.size] W9 dd _ D7_W9.out (k : Int))
          rw [HK1.out] at C10
          refine C10.out.mono ?_
          rintro e w10 ⟨v10, rfl, ⟨A10, c10, rfl, hD10⟩, hb10⟩
          have Bx_w10 := Lib.hid ((hb10.block (w.heap.size) (by omega)).trans Bx_W9.out)
          have ltx_w10 : w.heap.size < w10.heap.size := lt_heap Bx_w10.out
          have By4_w10 := Lib.hid ((hb10.block (w4.heap.size) (by omega)).trans By4_W9.out)
          have lty4_w10 : w4.heap.size < w10.heap.size := lt_heap By4_w10.out
          have By7_w10 := Lib.hid ((hb10.block (w7.heap.size) (by omega)).trans By7_W9.out)
          have lty7_w10 : w7.heap.size < w10.heap.size := lt_heap By7_w10.out
          have By8_w10 := Lib.hid ((hb10.block (w8.heap.size) (by omega)).trans By8_W9.out)
          have lty8_w10 : w8.heap.size < w10.heap.size := lt_heap By8_w10.out
          have D0_w10 := Lib.hid (D0_W9.out.below hb10)
          have Y0_w10 := Lib.hid (Y0_W9.out.below hb10)
          have Z0_w10 := Lib.hid (Z0_W9.out.below hb10)
          have Y3_w10 := Lib.hid (Y3_W9.out.below hb10)
          have D4_w10 := Lib.hid (D4_W9.out.below hb10)
          have Y5_w10 := Lib.hid (Y5_W9.out.below hb10)
          have Y6_w10 := Lib.hid (Y6_W9.out.below hb10)
          have D7_w10 := Lib.hid (D7_W9.out.below hb10)
          have D8_w10 := Lib.hid (D8_W9.out.below hb10)
          have TB_w10 := Lib.hid (TB_W9.out.trans (hb10.mono TB_W9.out.size))
          have bww10 := Lib.hid (bwW9.trans (hb10.mono bwW9.size))
          have szw10 : W9.heap.size ≤ w10.heap.size := hb10.size
          clear Bx_W9 By4_W9 By7_W9 By8_W9 ltx_W9 lty4_W9 lty7_W9 lty8_W9 D0_W9 Y0_W9 Z0_W9 Y3_W9 D4_W9 Y5_W9 Y6_W9 D7_W9 D8_W9 TB_W9
          clear kpW9 bwW9 inW9 hb10
          have Y10_w10 : Hid (IsBytes w10 (NB [w8.heap.size, w7.heap.size, w4.heap.size, w.heap.size]) (.slice A10 rk.length c10) rk) := ⟨A10, c10, rfl, hD10⟩
          clear hD10 C10
          obtain ⟨⟨e0, e1, e2, e3⟩, ⟨ef0, ef1, ef2, ef3⟩⟩ := blk4 (Below.refl _ w10) By8_w10.out (Nat.lt_succ_self _)
          go_wp2_with fail
          refine nameW fun W10 hW10 => ?_
          have kpW10 : Kp [w8.heap.size, w7.heap.size, w4.heap.size, w.heap.size] w10 W10 := by rw [hW10.out]; repeat (first | exact Kp.refl _ _ | refine Kp.alloc ?_ _ | refine Kp.setCell ?_ (by simp) _ _ | refine Kp.drew ?_ | refine Kp.drewN ?_ _)
          have bwW10 : Below w.heap.size w W10 := by rw [hW10.out]; repeat (first | exact bww10.out | refine Below.alloc ?_ (by (repeat (first | simp only [World.size_alloc] | simp only [size_set] | simp only [World.size_drew])); omega) _ | refine Below.setCell ?_ (by first | (dsimp only; omega) | omega) _ | refine Below.drew ?_ | refine below_drewN ?_ _)
          have szW10 : w10.heap.size ≤ W10.heap.size := kpW10.size
          have Bx_W10 : Hid (W10.heap[w.heap.size]? = some (.cells #[.slice sA0 d.sectors.length sc0, .slice pA0 d.pending.length pc0, .int .i64 d.left, .bool d.stopped] 25 (0, 0))) := by show _ = _; rw [hW10.out]; (repeat (first | simp only [heap_drew] | simp only [World.heap_drewN] | simp only [heap_alloc_if] | simp only [heap_set_if] | simp only [World.size_alloc] | simp only [size_set] | simp only [World.size_drew])); (repeat (first | rw [if_pos trivial] | rw [if_pos (by omega)] | rw [if_neg (by omega)])); exact Bx_w10.out
          have ltx_W10 : w.heap.size < W10.heap.size := lt_heap Bx_W10.out
          have By4_W10 : Hid (W10.heap[w4.heap.size]? = some (.cells #[.slice sA4 dx.sectors.length sc4, .slice pA4 dx.pending.length pc4, .int .i64 dx.left, .bool dx.stopped] 25 (0, 0))) := by show _ = _; rw [hW10.out]; (repeat (first | simp only [heap_drew] | simp only [World.heap_drewN] | simp only [heap_alloc_if] | simp only [heap_set_if] | simp only [World.size_alloc] | simp only [size_set] | simp only [World.size_drew])); (repeat (first | rw [if_pos trivial] | rw [if_pos (by omega)] | rw [if_neg (by omega)])); exact By4_w10.out
          have lty4_W10 : w4.heap.size < W10.heap.size := lt_heap By4_W10.out
          have By7_W10 : Hid (W10.heap[w7.heap.size]? = some (.cells #[.slice sA7 dd.sectors.length sc7, .slice pA7 dd.pending.length pc7, .int .i64 dd.left, .bool dd.stopped] 25 (0, 0))) := by show _ = _; rw [hW10.out]; (repeat (first | simp only [heap_drew] | simp only [World.heap_drewN] | simp only [heap_alloc_if] | simp only [heap_set_if] | simp only [World.size_alloc] | simp only [size_set] | simp only [World.size_drew])); (repeat (first | rw [if_pos trivial] | rw [if_pos (by omega)] | rw [if_neg (by omega)])); exact By7_w10.out
          have lty7_W10 : w7.heap.size < W10.heap.size := lt_heap By7_W10.out
          have By8_W10 : Hid (W10.heap[w8.heap.size]? = some (.cells #[.slice sA8 dz.sectors.length sc8, .slice pA8 dz.pending.length pc8, .int .i64 dz.left, .bool dz.stopped] 25 (0, 0))) := by show _ = _; rw [hW10.out]; (repeat (first | simp only [heap_drew] | simp only [World.heap_drewN] | simp only [heap_alloc_if] | simp only [heap_set_if] | simp only [World.size_alloc] | simp only [size_set] | simp only [World.size_drew])); (repeat (first | rw [if_pos trivial] | rw [if_pos (by omega)] | rw [if_neg (by omega)])); exact By8_w10.out
          have lty8_W10 : w8.heap.size < W10.heap.size := lt_heap By8_W10.out
          have inW10 : InW [w8.heap.size, w7.heap.size, w4.heap.size, w.heap.size] W10 := by intro b hb; simp at hb; omega
          have TB_W10 : Hid (Below WQ.heap.size WQ W10) := by show Below _ _ _; rw [hW10.out]; repeat (first | exact TB_w10.out | refine Below.alloc ?_ (by (repeat (first | simp only [World.size_alloc] | simp only [size_set] | simp only [World.size_drew])); have := TB_w10.out.size; omega) _ | refine Below.setCell ?_ (by first | (dsimp only; omega) | omega) _ | refine Below.drew ?_ | refine below_drewN ?_ _)
          have D0_W10 := Lib.hid ((D0_w10.out).kp kpW10)
          have Y0_W10 := Lib.hid ((Y0_w10.out).kp kpW10)
          have Z0_W10 := Lib.hid ((Z0_w10.out).kp kpW10)
          have Y3_W10 := Lib.hid ((Y3_w10.out).kp kpW10)
          have D4_W10 := Lib.hid ((D4_w10.out).kp kpW10)
          have Y5_W10 := Lib.hid ((Y5_w10.out).kp kpW10)
          have Y6_W10 := Lib.hid ((Y6_w10.out).kp kpW10)
          have D7_W10 := Lib.hid ((D7_w10.out).kp kpW10)
          have D8_W10 := Lib.hid ((D8_w10.out).kp kpW10)
          have Y10_W10 := Lib.hid ((Y10_w10.out).kp kpW10)
          clear Bx_w10 By4_w10 By7_w10 By8_w10 ltx_w10 lty4_w10 lty7_w10 lty8_w10 D0_w10 Y0_w10 Z0_w10 Y3_w10 D4_w10 Y5_w10 Y6_w10 D7_w10 D8_w10 Y10_w10 TB_w10 e0 e1 e2 e3 ef0 ef1 ef2 ef3
          have C11 := Lib.hid (read_l [w8.heap.size, w7.heap.size, w4.heap.size, w.heap.size] W10 dz _ D8_W10.out (k : Int))
          rw [HK2.out] at C11
          refine C11.out.mono ?_
          rintro e w11 ⟨v11, rfl, ⟨A11, c11, rfl, hD11⟩, hb11⟩
          have Bx_w11 := Lib.hid ((hb11.block (w.heap.size) (by omega)).trans Bx_W10.out)
          have ltx_w11 : w.heap.size < w11.heap.size := lt_heap Bx_w11.out
          have By4_w11 := Lib.hid ((hb11.block (w4.heap.size) (by omega)).trans By4_W10.out)
          have lty4_w11 : w4.heap.size < w11.heap.size := lt_heap By4_w11.out
          have By7_w11 := Lib.hid ((hb11.block (w7.heap.size) (by omega)).trans By7_W10.out)
          have lty7_w11 : w7.heap.size < w11.heap.size := lt_heap By7_w11.out
          have By8_w11 := Lib.hid ((hb11.block (w8.heap.size) (by omega)).trans By8_W10.out)
          have lty8_w11 : w8.heap.size < w11.heap.size := lt_heap By8_w11.out
          have D0_w11 := Lib.hid (D0_W10.out.below hb11)
          have Y0_w11 := Lib.hid (Y0_W10.out.below hb11)
          have Z0_w11 := Lib.hid (Z0_W10.out.below hb11)
          have Y3_w11 := Lib.hid (Y3_W10.out.below hb11)
          have D4_w11 := Lib.hid (D4_W10.out.below hb11)
          have Y5_w11 := Lib.hid (Y5_W10.out.below hb11)
          have Y6_w11 := Lib.hid (Y6_W10.out.below hb11)
          have D7_w11 := Lib.hid (D7_W10.out.below hb11)
          have D8_w11 := Lib.hid (D8_W10.out.below hb11)
          have Y10_w11 := Lib.hid (Y10_W10.out.below hb11)
          have TB_w11 := Lib.hid (TB_W10.out.trans (hb11.mono TB_W10.out.size))
          have bww11 := Lib.hid (bwW10.trans (hb11.mono bwW10.size))
          have szw11 : W10.heap.size ≤ w11.heap.size := hb11.size
          clear Bx_W10 By4_W10 By7_W10 By8_W10 ltx_W10 lty4_W10 lty7_W10 lty8_W10 D0_W10 Y0_W10 Z0_W10 Y3_W10 D4_W10 Y5_W10 Y6_W10 D7_W10 D8_W10 Y10_W10 TB_W10
          clear kpW10 bwW10 inW10 hb11
          have Y11_w11 : Hid (IsBytes w11 (NB [w8.heap.size, w7.heap.size, w4.heap.size, w.heap.size]) (.slice A11 rk.length c11) rk) := ⟨A11, c11, rfl, hD11⟩
          clear hD11 C11
          have cv1 := conv_is Y10_w11.out
          have cv2 := conv_is Y11_w11.out
          go_wp2_with fail
          go_roundw
          case rel => exact ⟨k + 1, by omega, by go_num, TB_w11⟩
          case measure => simp [intOf]; omega
        · have hnlt : ¬ (k : Int) < (d.sectors.length : Int) := by omega
          obtain ⟨⟨e0, e1, e2, e3⟩, ⟨ef0, ef1, ef2, ef3⟩⟩ := blk4 (Below.refl _ wr) By8_wr.out (Nat.lt_succ_self _)
          have hzp' : ((dz.pending.length : Int) == 0) = true := by rw [HZP.out]; rfl
          go_wp2_with fail
          refine nameW fun W9 hW9 => ?_
          have kpW9 : Kp [w8.heap.size, w7.heap.size, w4.heap.size, w.heap.size] wr W9 := by rw [hW9.out]; repeat (first | exact Kp.refl _ _ | refine Kp.alloc ?_ _ | refine Kp.setCell ?_ (by simp) _ _ | refine Kp.drew ?_ | refine Kp.drewN ?_ _)
          have bwW9 : Below w.heap.size w W9 := by rw [hW9.out]; repeat (first | exact bwwr.out | refine Below.alloc ?_ (by (repeat (first | simp only [World.size_alloc] | simp only [size_set] | simp only [World.size_drew])); omega) _ | refine Below.setCell ?_ (by first | (dsimp only; omega) | omega) _ | refine Below.drew ?_ | refine below_drewN ?_ _)
          have szW9 : wr.heap.size ≤ W9.heap.size := kpW9.size
          have Bx_W9 : Hid (W9.heap[w.heap.size]? = some (.cells #[.slice sA0 d.sectors.length sc0, .slice pA0 d.pending.length pc0, .int .i64 d.left, .bool d.stopped] 25 (0, 0))) := by show _ = _; rw [hW9.out]; (repeat (first | simp only [heap_drew] | simp only [World.heap_drewN] | simp only [heap_alloc_if] | simp only [heap_set_if] | simp only [World.size_alloc] | simp only [size_set] | simp only [World.size_drew])); (repeat (first | rw [if_pos trivial] | rw [if_pos (by omega)] | rw [if_neg (by omega)])); exact Bx_wr.out
          have ltx_W9 : w.heap.size < W9.heap.size := lt_heap Bx_W9.out
          have By4_W9 : Hid (W9.heap[w4.heap.size]? = some (.cells #[.slice sA4 dx.sectors.length sc4, .slice pA4 dx.pending.length pc4, .int .i64 dx.left, .bool dx.stopped] 25 (0, 0))) := by show _ = _; rw [hW9.out]; (repeat (first | simp only [heap_drew] | simp only [World.heap_drewN] | simp only [heap_alloc_if] | simp only [heap_set_if] | simp only [World.size_alloc] | simp only [size_set] | simp only [World.size_drew])); (repeat (first | rw [if_pos trivial] | rw [if_pos (by omega)] | rw [if_neg (by omega)])); exact By4_wr.out
          have lty4_W9 : w4.heap.size < W9.heap.size := lt_heap By4_W9.out
          have By7_W9 : Hid (W9.heap[w7.heap.size]? = some (.cells #[.slice sA7 dd.sectors.length sc7, .slice pA7 dd.pending.length pc7, .int .i64 dd.left, .bool dd.stopped] 25 (0, 0))) := by show _ = _; rw [hW9.out]; (repeat (first | simp only [heap_drew] | simp only [World.heap_drewN] | simp only [heap_alloc_if] | simp only [heap_set_if] | simp only [World.size_alloc] | simp only [size_set] | simp only [World.size_drew])); (repeat (first | rw [if_pos trivial] | rw [if_pos (by omega)] | rw [if_neg (by omega)])); exact By7_wr.out
          have lty7_W9 : w7.heap.size < W9.heap.size := lt_heap By7_W9.out
          have By8_W9 : Hid (W9.heap[w8.heap.size]? = some (.cells #[.slice sA8 dz.sectors.length sc8, .slice pA8 dz.pending.length pc8, .int .i64 dz.left, .bool dz.stopped] 25 (0, 0))) := by show _ = _; rw [hW9.out]; (repeat (first | simp only [heap_drew] | simp only [World.heap_drewN] | simp only [heap_alloc_if] | simp only [heap_set_if] | simp only [World.size_alloc] | simp only [size_set] | simp only [World.size_drew])); (repeat (first | rw [if_pos trivial] | rw [if_pos (by omega)] | rw [if_neg (by omega)])); exact By8_wr.out
          have lty8_W9 : w8.heap.size < W9.heap.size := lt_heap By8_W9.out
          have inW9 : InW [w8.heap.size, w7.heap.size, w4.heap.size, w.heap.size] W9 := by intro b hb; simp at hb; omega
          have D0_W9 := Lib.hid ((D0_wr.out).kp kpW9)
          have Y0_W9 := Lib.hid ((Y0_wr.out).kp kpW9)
          have Z0_W9 := Lib.hid ((Z0_wr.out).kp kpW9)
          have Y3_W9 := Lib.hid ((Y3_wr.out).kp kpW9)
          have D4_W9 := Lib.hid ((D4_wr.out).kp kpW9)
          have Y5_W9 := Lib.hid ((Y5_wr.out).kp kpW9)
          have Y6_W9 := Lib.hid ((Y6_wr.out).kp kpW9)
          have D7_W9 := Lib.hid ((D7_wr.out).kp kpW9)
          have D8_W9 := Lib.hid ((D8_wr.out).kp kpW9)
          clear Bx_wr By4_wr By7_wr By8_wr ltx_wr lty4_wr lty7_wr lty8_wr D0_wr Y0_wr Z0_wr Y3_wr D4_wr Y5_wr Y6_wr D7_wr D8_wr c0 c1 c2 c3 cf0 cf1 cf2 cf3 e0 e1 e2 e3 ef0 ef1 ef2 ef3
          have C12 := Lib.hid (check_any W9 _ dz _ D8_W9.out)
          rw [HZC.out] at C12
          refine C12.out.mono ?_
          rintro e w12 ⟨rfl, hb12⟩
          have Bx_w12 := Lib.hid ((hb12.block (w.heap.size) (by omega)).trans Bx_W9.out)
          have ltx_w12 : w.heap.size < w12.heap.size := lt_heap Bx_w12.out
          have By4_w12 := Lib.hid ((hb12.block (w4.heap.size) (by omega)).trans By4_W9.out)
          have lty4_w12 : w4.heap.size < w12.heap.size := lt_heap By4_w12.out
          have By7_w12 := Lib.hid ((hb12.block (w7.heap.size) (by omega)).trans By7_W9.out)
          have lty7_w12 : w7.heap.size < w12.heap.size := lt_heap By7_w12.out
          have By8_w12 := Lib.hid ((hb12.block (w8.heap.size) (by omega)).trans By8_W9.out)
          have lty8_w12 : w8.heap.size < w12.heap.size := lt_heap By8_w12.out
          have D0_w12 := Lib.hid (D0_W9.out.below hb12)
          have Y0_w12 := Lib.hid (Y0_W9.out.below hb12)
          have Z0_w12 := Lib.hid (Z0_W9.out.below hb12)
          have Y3_w12 := Lib.hid (Y3_W9.out.below hb12)
          have D4_w12 := Lib.hid (D4_W9.out.below hb12)
          have Y5_w12 := Lib.hid (Y5_W9.out.below hb12)
          have Y6_w12 := Lib.hid (Y6_W9.out.below hb12)
          have D7_w12 := Lib.hid (D7_W9.out.below hb12)
          have D8_w12 := Lib.hid (D8_W9.out.below hb12)
          have bww12 := Lib.hid (bwW9.trans (hb12.mono bwW9.size))
          have szw12 : W9.heap.size ≤ w12.heap.size := hb12.size
          clear Bx_W9 By4_W9 By7_W9 By8_W9 ltx_W9 lty4_W9 lty7_W9 lty8_W9 D0_W9 Y0_W9 Z0_W9 Y3_W9 D4_W9 Y5_W9 Y6_W9 D7_W9 D8_W9
          clear kpW9 bwW9 inW9 hb12
          go_wp2_with fail
          go_ret
          exact ⟨rfl, bww12.out⟩
theorem law7 (w : World) (d : DiskD) (v : Value) (h : IsDisk w (NB []) v d) (hL : Lens d) (x y : Int) (b : List UInt8) (u : Value) (hb : IsBytes w (NB []) u b) (c : List UInt8) (t : Value) (hc : IsBytes w (NB []) t c) : Calls Try.prog 7 #[v, .int .i64 x, .int .i64 y, u, t] w fun e w' => e = .returned (.bool true) ∧ Below w.heap.size w w' := by
  by_cases hs : b.length ≤ 128
  · by_cases hs2 : c.length ≤ 128
    · by_cases hok : (readD d y).2 = 0 ∧ (writeD d x b).2 = 0
      · obtain ⟨hr, hy⟩ := readD_code hok.1
        obtain ⟨-, hx, hp⟩ := writeD_code hok.2 hs
        have e3 : readD d y = ((readD d y).1, 0) := Prod.ext rfl hok.1
        have e4 := writeD_yes hr hx hs hp
        have e5 := readD_wrote (b := b) hr hx hy hs hp
        have e6 : readD (wrote d x b) x = (pad b, 0) := by rw [readD_wrote hr hx hx hs hp, if_pos rfl]
        have her : ¬ x = y → (if x = y then pad b else (readD d y).1) = (readD d y).1 := fun hn => if_neg hn
        have hrx := runs_wrote hr hx hs hp
        by_cases hf : (wrote d x b).pending.length = 4096
        · exact law7_full w d v h hL x y b u hb c t hc hs hs2 _ _ e3 e4 e5 her e6 (writeD_full hrx (by rw [has_wrote]; exact hy) hs2 hf)
        · have hlt : (wrote d x b).pending.length < 4096 := by simp [wrote] at hf ⊢; omega
          have e7 := writeD_yes hrx (show hasB (wrote d x b) y = true by rw [has_wrote]; exact hy) hs2 hlt
          have hrd := runs_wrote hrx (show hasB (wrote d x b) y = true by rw [has_wrote]; exact hy) hs2 hlt
          by_cases hst : 0 ≤ (wrote (wrote d x b) y c).left ∧ (wrote (wrote d x b) y c).left < (wrote (wrote d x b) y c).pending.length
          · exact law7_stop w d v h hL x y b u hb c t hc hs hs2 _ _ e3 e4 e5 her e6 _ _ e7 (syncD_stop hrd hst) rfl
          · refine law7_go w d v h hL x y b u hb c t hc hs hs2 _ _ e3 e4 e5 her e6 _ _ e7 (syncD_go hrd hst) rfl (chk_runs (runs_synced hrd hst)) (fun k hk => ?_)
            have e9 := readD_synced hrd hst (k := k) hk
            have e10 := readD_yes hrd (show hasB (wrote (wrote d x b) y c) k = true from hasB_iff.2 ⟨by omega, by simpa [wrote] using hk⟩)
            exact ⟨_, e10, e9.trans e10⟩
      · exact law7_refused w d v h hL x y b u hb c t hc hs hs2 hok
    · exact law7_long2 w d v h hL x y b u hb c t hc hs (by omega)
  · exact law7_long1 w d v h hL x y b u hb c t hc (by omega)
end Go.Proofs.Ytjmafnkknohinaa
