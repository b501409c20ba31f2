import Derived.Test.YtjmafnkknohinaaK3
namespace Go.Proofs.Ytjmafnkknohinaa
open Go.RowKit Go.Shelf Go.Deep

/-- give the world ahead of a piece of code a name -/
theorem nameC {P : Program} {c : Code} {Q : Exit → Act → World → Prop} {a : Act} {w : World} (h : ∀ W, Hid (W = w) → c.wp P Q a W) : c.wp P Q a w := h w rfl
set_option maxRecDepth 100000 in
set_option maxHeartbeats 2000000 in
theorem law3 (w : World) (d : DiskD) (v : Value) (h : IsDisk w (NB []) v d) (hL : Lens d) (x : Int) : Calls Try.prog 3 #[.int .i64 x, v] w fun e w' => e = .returned (.bool true) ∧ Below w.heap.size w w' := by
  obtain ⟨sA0, sc0, pA0, pc0, rfl, hsA1, hsA2, -⟩ := h.parts
  have D0_w := Lib.hid h
  clear h
  obtain ⟨r3, hr3⟩ : ∃ r, newD x = r := ⟨_, rfl⟩
  have HR3 := Lib.hid hr3
  clear hr3
  go_enter Try.func3, Try.ntmps3
  go_wp2_with fail
  refine nameW fun W1 hW1 => ?_
  have kpW1 : Kp [w.heap.size] w W1 := by rw [hW1.out]; repeat (first | exact Kp.refl _ _ | refine Kp.alloc ?_ _ | refine Kp.setCell ?_ (by simp) _ _ | refine Kp.drew ?_ | refine Kp.drewN ?_ _)
  have bwW1 : Below w.heap.size w W1 := by rw [hW1.out]; repeat (first | exact Below.refl _ _ | refine Below.alloc ?_ (by (repeat (first | simp only [World.size_alloc] | simp only [size_set] | simp only [World.size_drew])); omega) _ | refine Below.setCell ?_ (by first | (dsimp only; omega) | omega) _ | refine Below.drew ?_ | refine below_drewN ?_ _)
  have szW1 : w.heap.size ≤ W1.heap.size := kpW1.size
  have Bx_W1 : Hid (W1.heap[w.heap.size]? = some (.cells #[.slice sA0 d.sectors.length sc0, .slice pA0 d.pending.length pc0, .int .i64 d.left, .bool d.stopped] 25 (0, 0))) := by show _ = _; rw [hW1.out]; (repeat (first | simp only [heap_drew] | simp only [World.heap_drewN] | simp only [heap_alloc_if] | simp only [heap_set_if] | simp only [World.size_alloc] | simp only [size_set] | simp only [World.size_drew])); (repeat (first | rw [if_pos trivial] | rw [if_pos (by omega)] | rw [if_neg (by omega)]))
  have ltx_W1 : w.heap.size < W1.heap.size := lt_heap Bx_W1.out
  have mkx : w.heap.size < W1.heap.size := ltx_W1
  have inW1 : InW [w.heap.size] W1 := by intro b hb; simp at hb; omega
  have D0_W1 := Lib.hid (((D0_w.out).box (by omega)).kp kpW1)
  clear D0_w
  have C1 := Lib.hid (sane_any W1)
  refine C1.out.mono ?_
  rintro e w1 ⟨rfl, hb1⟩
  have Bx_w1 := Lib.hid ((hb1.block (w.heap.size) (by omega)).trans Bx_W1.out)
  have ltx_w1 : w.heap.size < w1.heap.size := lt_heap Bx_w1.out
  have D0_w1 := Lib.hid (D0_W1.out.below hb1)
  have bww1 := Lib.hid (bwW1.trans (hb1.mono bwW1.size))
  have szw1 : W1.heap.size ≤ w1.heap.size := hb1.size
  clear Bx_W1 ltx_W1 D0_W1
  clear kpW1 bwW1 inW1 hb1
  clear C1
  have hx : (60 < x ∧ x ≤ 4096) ∨ x ≤ 60 ∨ (60 < x ∧ 4096 < x) := by omega
  rcases hx with ⟨hx1, hx2⟩ | hx
  · go_wp2_with fail
    go_ret
    exact ⟨rfl, bww1.out⟩
  rcases hx with hx1 | ⟨hx1, hx2⟩
  · obtain ⟨⟨c0, c1, c2, c3⟩, ⟨cf0, cf1, cf2, cf3⟩⟩ := blk4 (Below.refl _ w1) Bx_w1.out (Nat.lt_succ_self _)
    go_wp2_with fail
    refine nameW fun W2 hW2 => ?_
    have kpW2 : Kp [w.heap.size] w1 W2 := by rw [hW2.out]; repeat (first | exact Kp.refl _ _ | refine Kp.alloc ?_ _ | refine Kp.setCell ?_ (by simp) _ _ | refine Kp.drew ?_ | refine Kp.drewN ?_ _)
    have bwW2 : Below w.heap.size w W2 := by rw [hW2.out]; repeat (first | exact bww1.out | refine Below.alloc ?_ (by (repeat (first | simp only [World.size_alloc] | simp only [size_set] | simp only [World.size_drew])); omega) _ | refine Below.setCell ?_ (by first | (dsimp only; omega) | omega) _ | refine Below.drew ?_ | refine below_drewN ?_ _)
    have szW2 : w1.heap.size ≤ W2.heap.size := kpW2.size
    have Bx_W2 : Hid (W2.heap[w.heap.size]? = some (.cells #[.slice sA0 d.sectors.length sc0, .slice pA0 d.pending.length pc0, .int .i64 d.left, .bool d.stopped] 25 (0, 0))) := by show _ = _; rw [hW2.out]; (repeat (first | simp only [heap_drew] | simp only [World.heap_drewN] | simp only [heap_alloc_if] | simp only [heap_set_if] | simp only [World.size_alloc] | simp only [size_set] | simp only [World.size_drew])); (repeat (first | rw [if_pos trivial] | rw [if_pos (by omega)] | rw [if_neg (by omega)])); exact Bx_w1.out
    have ltx_W2 : w.heap.size < W2.heap.size := lt_heap Bx_W2.out
    have inW2 : InW [w.heap.size] W2 := by intro b hb; simp at hb; omega
    have D0_W2 := Lib.hid ((D0_w1.out).kp kpW2)
    clear Bx_w1 ltx_w1 D0_w1 c0 c1 c2 c3 cf0 cf1 cf2 cf3
    have C2 := Lib.hid (few_any W2 (NB [w.heap.size]) d _ D0_W2.out hL)
    refine C2.out.mono ?_
    rintro e w2 ⟨fb, rfl, hsm, hb2⟩
    clear hsm
    have Bx_w2 := Lib.hid ((hb2.block (w.heap.size) (by omega)).trans Bx_W2.out)
    have ltx_w2 : w.heap.size < w2.heap.size := lt_heap Bx_w2.out
    have D0_w2 := Lib.hid (D0_W2.out.below hb2)
    have bww2 := Lib.hid (bwW2.trans (hb2.mono bwW2.size))
    have szw2 : W2.heap.size ≤ w2.heap.size := hb2.size
    clear Bx_W2 ltx_W2 D0_W2
    clear kpW2 bwW2 inW2 hb2
    clear C2
    cases fb with
    | false =>
      go_wp2_with fail
      go_ret
      exact ⟨rfl, bww2.out⟩
    | true =>
      go_wp2_with fail
      refine nameW fun W3 hW3 => ?_
      have kpW3 : Kp [w.heap.size] w2 W3 := by rw [hW3.out]; repeat (first | exact Kp.refl _ _ | refine Kp.alloc ?_ _ | refine Kp.setCell ?_ (by simp) _ _ | refine Kp.drew ?_ | refine Kp.drewN ?_ _)
      have bwW3 : Below w.heap.size w W3 := by rw [hW3.out]; repeat (first | exact bww2.out | refine Below.alloc ?_ (by (repeat (first | simp only [World.size_alloc] | simp only [size_set] | simp only [World.size_drew])); omega) _ | refine Below.setCell ?_ (by first | (dsimp only; omega) | omega) _ | refine Below.drew ?_ | refine below_drewN ?_ _)
      have szW3 : w2.heap.size ≤ W3.heap.size := kpW3.size
      have Bx_W3 : Hid (W3.heap[w.heap.size]? = some (.cells #[.slice sA0 d.sectors.length sc0, .slice pA0 d.pending.length pc0, .int .i64 d.left, .bool d.stopped] 25 (0, 0))) := by show _ = _; rw [hW3.out]; (repeat (first | simp only [heap_drew] | simp only [World.heap_drewN] | simp only [heap_alloc_if] | simp only [heap_set_if] | simp only [World.size_alloc] | simp only [size_set] | simp only [World.size_drew])); (repeat (first | rw [if_pos trivial] | rw [if_pos (by omega)] | rw [if_neg (by omega)])); exact Bx_w2.out
      have ltx_W3 : w.heap.size < W3.heap.size := lt_heap Bx_W3.out
      have inW3 : InW [w.heap.size] W3 := by intro b hb; simp at hb; omega
      have D0_W3 := Lib.hid ((D0_w2.out).kp kpW3)
      clear Bx_w2 ltx_w2 D0_w2
      have C3 := Lib.hid (new_l [w.heap.size] W3 inW3 x)
      rw [HR3.out] at C3
      refine C3.out.mono ?_
      rintro e w3 ⟨v3, rfl, hD3, hb3⟩
      obtain ⟨sA3, sc3, pA3, pc3, rfl, -⟩ := hD3.parts
      have Bx_w3 := Lib.hid ((hb3.block (w.heap.size) (by omega)).trans Bx_W3.out)
      have ltx_w3 : w.heap.size < w3.heap.size := lt_heap Bx_w3.out
      have D0_w3 := Lib.hid (D0_W3.out.below hb3)
      have bww3 := Lib.hid (bwW3.trans (hb3.mono bwW3.size))
      have szw3 : W3.heap.size ≤ w3.heap.size := hb3.size
      clear Bx_W3 ltx_W3 D0_W3
      clear kpW3 bwW3 inW3 hb3
      have D3_w3 := Lib.hid hD3
      clear hD3 C3
      go_wp2_with fail
      refine nameW fun W4 hW4 => ?_
      have kpW4 : Kp [w3.heap.size, w.heap.size] w3 W4 := by rw [hW4.out]; repeat (first | exact Kp.refl _ _ | refine Kp.alloc ?_ _ | refine Kp.setCell ?_ (by simp) _ _ | refine Kp.drew ?_ | refine Kp.drewN ?_ _)
      have bwW4 : Below w.heap.size w W4 := by rw [hW4.out]; repeat (first | exact bww3.out | refine Below.alloc ?_ (by (repeat (first | simp only [World.size_alloc] | simp only [size_set] | simp only [World.size_drew])); omega) _ | refine Below.setCell ?_ (by first | (dsimp only; omega) | omega) _ | refine Below.drew ?_ | refine below_drewN ?_ _)
      have szW4 : w3.heap.size ≤ W4.heap.size := kpW4.size
      have By3_W4 : Hid (W4.heap[w3.heap.size]? = some (.cells #[.slice sA3 r3.1.sectors.length sc3, .slice pA3 r3.1.pending.length pc3, .int .i64 r3.1.left, .bool r3.1.stopped] 25 (0, 0))) := by show _ = _; rw [hW4.out]; (repeat (first | simp only [heap_drew] | simp only [World.heap_drewN] | simp only [heap_alloc_if] | simp only [heap_set_if] | simp only [World.size_alloc] | simp only [size_set] | simp only [World.size_drew])); (repeat (first | rw [if_pos trivial] | rw [if_pos (by omega)] | rw [if_neg (by omega)]))
      have lty3_W4 : w3.heap.size < W4.heap.size := lt_heap By3_W4.out
      have mky3 : w3.heap.size < W4.heap.size := lty3_W4
      have Bx_W4 : Hid (W4.heap[w.heap.size]? = some (.cells #[.slice sA0 d.sectors.length sc0, .slice pA0 d.pending.length pc0, .int .i64 d.left, .bool d.stopped] 25 (0, 0))) := by show _ = _; rw [hW4.out]; (repeat (first | simp only [heap_drew] | simp only [World.heap_drewN] | simp only [heap_alloc_if] | simp only [heap_set_if] | simp only [World.size_alloc] | simp only [size_set] | simp only [World.size_drew])); (repeat (first | rw [if_pos trivial] | rw [if_pos (by omega)] | rw [if_neg (by omega)])); exact Bx_w3.out
      have ltx_W4 : w.heap.size < W4.heap.size := lt_heap Bx_W4.out
      have inW4 : InW [w3.heap.size, w.heap.size] W4 := by intro b hb; simp at hb; omega
      have D0_W4 := Lib.hid (((D0_w3.out).box (by omega)).kp kpW4)
      have D3_W4 := Lib.hid (((D3_w3.out).box (by omega)).kp kpW4)
      clear Bx_w3 ltx_w3 D0_w3 D3_w3
      have C4 := Lib.hid (refNew_l [w3.heap.size, w.heap.size] W4 inW4 x)
      rw [HR3.out] at C4
      refine C4.out.mono ?_
      rintro e w4 ⟨v4, rfl, hD4, hb4⟩
      obtain ⟨sA4, sc4, pA4, pc4, rfl, -⟩ := hD4.parts
      have Bx_w4 := Lib.hid ((hb4.block (w.heap.size) (by omega)).trans Bx_W4.out)
      have ltx_w4 : w.heap.size < w4.heap.size := lt_heap Bx_w4.out
      have By3_w4 := Lib.hid ((hb4.block (w3.heap.size) (by omega)).trans By3_W4.out)
      have lty3_w4 : w3.heap.size < w4.heap.size := lt_heap By3_w4.out
      have D0_w4 := Lib.hid (D0_W4.out.below hb4)
      have D3_w4 := Lib.hid (D3_W4.out.below hb4)
      have bww4 := Lib.hid (bwW4.trans (hb4.mono bwW4.size))
      have szw4 : W4.heap.size ≤ w4.heap.size := hb4.size
      clear Bx_W4 By3_W4 ltx_W4 lty3_W4 D0_W4 D3_W4
      clear kpW4 bwW4 inW4 hb4
      have D4_w4 := Lib.hid hD4
      clear hD4 C4
      go_wp2_with fail
      refine nameC fun W9 hW9 => ?_
      have kpW9 : Kp [w4.heap.size, w3.heap.size, w.heap.size] w4 W9 := by rw [hW9.out]; repeat (first | exact Kp.refl _ _ | refine Kp.alloc ?_ _ | refine Kp.setCell ?_ (by simp) _ _ | refine Kp.drew ?_ | refine Kp.drewN ?_ _)
      have bwW9 : Below w.heap.size w W9 := by rw [hW9.out]; repeat (first | exact bww4.out | refine Below.alloc ?_ (by (repeat (first | simp only [World.size_alloc] | simp only [size_set] | simp only [World.size_drew])); omega) _ | refine Below.setCell ?_ (by first | (dsimp only; omega) | omega) _ | refine Below.drew ?_ | refine below_drewN ?_ _)
      have szW9 : w4.heap.size ≤ W9.heap.size := kpW9.size
      have By4_W9 : Hid (W9.heap[w4.heap.size]? = some (.cells #[.slice sA4 r3.1.sectors.length sc4, .slice pA4 r3.1.pending.length pc4, .int .i64 r3.1.left, .bool r3.1.stopped] 25 (0, 0))) := by show _ = _; rw [hW9.out]; (repeat (first | simp only [heap_drew] | simp only [World.heap_drewN] | simp only [heap_alloc_if] | simp only [heap_set_if] | simp only [World.size_alloc] | simp only [size_set] | simp only [World.size_drew])); (repeat (first | rw [if_pos trivial] | rw [if_pos (by omega)] | rw [if_neg (by omega)]))
      have lty4_W9 : w4.heap.size < W9.heap.size := lt_heap By4_W9.out
      have mky4 : w4.heap.size < W9.heap.size := lty4_W9
      have Bx_W9 : Hid (W9.heap[w.heap.size]? = some (.cells #[.slice sA0 d.sectors.length sc0, .slice pA0 d.pending.length pc0, .int .i64 d.left, .bool d.stopped] 25 (0, 0))) := by show _ = _; rw [hW9.out]; (repeat (first | simp only [heap_drew] | simp only [World.heap_drewN] | simp only [heap_alloc_if] | simp only [heap_set_if] | simp only [World.size_alloc] | simp only [size_set] | simp only [World.size_drew])); (repeat (first | rw [if_pos trivial] | rw [if_pos (by omega)] | rw [if_neg (by omega)])); exact Bx_w4.out
      have ltx_W9 : w.heap.size < W9.heap.size := lt_heap Bx_W9.out
      have By3_W9 : Hid (W9.heap[w3.heap.size]? = some (.cells #[.slice sA3 r3.1.sectors.length sc3, .slice pA3 r3.1.pending.length pc3, .int .i64 r3.1.left, .bool r3.1.stopped] 25 (0, 0))) := by show _ = _; rw [hW9.out]; (repeat (first | simp only [heap_drew] | simp only [World.heap_drewN] | simp only [heap_alloc_if] | simp only [heap_set_if] | simp only [World.size_alloc] | simp only [size_set] | simp only [World.size_drew])); (repeat (first | rw [if_pos trivial] | rw [if_pos (by omega)] | rw [if_neg (by omega)])); exact By3_w4.out
      have lty3_W9 : w3.heap.size < W9.heap.size := lt_heap By3_W9.out
      have inW9 : InW [w4.heap.size, w3.heap.size, w.heap.size] W9 := by intro b hb; simp at hb; omega
      have D0_W9 := Lib.hid (((D0_w4.out).box (by omega)).kp kpW9)
      have D3_W9 := Lib.hid (((D3_w4.out).box (by omega)).kp kpW9)
      have D4_W9 := Lib.hid (((D4_w4.out).box (by omega)).kp kpW9)
      clear Bx_w4 By3_w4 ltx_w4 lty3_w4 D0_w4 D3_w4 D4_w4
      obtain ⟨⟨c0, c1, c2, c3⟩, ⟨cf0, cf1, cf2, cf3⟩⟩ := blk4 (Below.refl _ W9) Bx_W9.out (Nat.lt_succ_self _)
      obtain ⟨⟨d0, d1, d2, d3⟩, ⟨df0, df1, df2, df3⟩⟩ := blk4 (Below.refl _ W9) By3_W9.out (Nat.lt_succ_self _)
      obtain ⟨⟨e0, e1, e2, e3⟩, ⟨ef0, ef1, ef2, ef3⟩⟩ := blk4 (Below.refl _ W9) By4_W9.out (Nat.lt_succ_self _)
      have he3 : (r3.2 == r3.2) = true := by simp
      have hec : (chk d == chk d) = true := by simp
      have hBd : Below W9.heap.size W9 W9.drew := (Below.refl _ _).drew
      go_region_held3 (fun w' => w'.cell? ⟨w.heap.size, 0, none⟩ = some (.slice sA0 d.sectors.length sc0) ∧ w'.cell? ⟨w.heap.size, 1, none⟩ = some (.slice pA0 d.pending.length pc0) ∧ w'.cell? ⟨w.heap.size, 2, none⟩ = some (.int .i64 d.left) ∧ w'.cell? ⟨w.heap.size, 3, none⟩ = some (.bool d.stopped) ∧ w'.cell? ⟨w3.heap.size, 0, none⟩ = some (.slice sA3 r3.1.sectors.length sc3) ∧ w'.cell? ⟨w3.heap.size, 1, none⟩ = some (.slice pA3 r3.1.pending.length pc3) ∧ w'.cell? ⟨w3.heap.size, 2, none⟩ = some (.int .i64 r3.1.left) ∧ w'.cell? ⟨w3.heap.size, 3, none⟩ = some (.bool r3.1.stopped) ∧ w'.cell? ⟨w4.heap.size, 0, none⟩ = some (.slice sA4 r3.1.sectors.length sc4) ∧ w'.cell? ⟨w4.heap.size, 1, none⟩ = some (.slice pA4 r3.1.pending.length pc4) ∧ w'.cell? ⟨w4.heap.size, 2, none⟩ = some (.int .i64 r3.1.left) ∧ w'.cell? ⟨w4.heap.size, 3, none⟩ = some (.bool r3.1.stopped)) (first | with_reducible exact ⟨c0, c1, c2, c3, d0, d1, d2, d3, e0, e1, e2, e3⟩ | go_keep) (first | (go_at_call 15; refine (check_any _ (NB [w4.heap.size, w3.heap.size, w.heap.size]) d _ (D0_W9.out.below (by assumption))).mono ?_; rintro e w6 ⟨rfl, hb6⟩; have hBd : Below W9.heap.size W9 w6 := Below.trans (by assumption) (hb6.mono (by have hq := (show Below W9.heap.size W9 _ from by assumption).size; omega)); obtain ⟨⟨c0, c1, c2, c3⟩, _⟩ := blk4 hBd Bx_W9.out (by omega); obtain ⟨⟨d0, d1, d2, d3⟩, _⟩ := blk4 hBd By3_W9.out (by omega); obtain ⟨⟨e0, e1, e2, e3⟩, _⟩ := blk4 hBd By4_W9.out (by omega);) | (go_at_call 16; refine (refCheck_any _ (NB [w4.heap.size, w3.heap.size, w.heap.size]) d _ (D0_W9.out.below (by assumption))).mono ?_; rintro e w6 ⟨rfl, hb6⟩; have hBd : Below W9.heap.size W9 w6 := Below.trans (by assumption) (hb6.mono (by have hq := (show Below W9.heap.size W9 _ from by assumption).size; omega)); obtain ⟨⟨c0, c1, c2, c3⟩, _⟩ := blk4 hBd Bx_W9.out (by omega); obtain ⟨⟨d0, d1, d2, d3⟩, _⟩ := blk4 hBd By3_W9.out (by omega); obtain ⟨⟨e0, e1, e2, e3⟩, _⟩ := blk4 hBd By4_W9.out (by omega);) | (go_at_call 17; refine (restart_any _ (NB [w4.heap.size, w3.heap.size, w.heap.size]) d _ (D0_W9.out.below (by assumption))).mono ?_; rintro e w6 ⟨v17, rfl, hD17, hb6⟩; have hb17 := hb6; obtain ⟨sA17, sc17, pA17, pc17, rfl, -⟩ := hD17.parts; have hBd : Below W9.heap.size W9 w6 := Below.trans (by assumption) (hb6.mono (by have hq := (show Below W9.heap.size W9 _ from by assumption).size; omega)); obtain ⟨⟨c0, c1, c2, c3⟩, _⟩ := blk4 hBd Bx_W9.out (by omega); obtain ⟨⟨d0, d1, d2, d3⟩, _⟩ := blk4 hBd By3_W9.out (by omega); obtain ⟨⟨e0, e1, e2, e3⟩, _⟩ := blk4 hBd By4_W9.out (by omega);) | (go_at_call 18; refine (refRestart_any _ (NB [w4.heap.size, w3.heap.size, w.heap.size]) d _ (D0_W9.out.below (by assumption))).mono ?_; rintro e w6 ⟨v18, rfl, hD18, hb6⟩; have hb18 := hb6; obtain ⟨sA18, sc18, pA18, pc18, rfl, -⟩ := hD18.parts; have hBd : Below W9.heap.size W9 w6 := Below.trans (by assumption) (hb6.mono (by have hq := (show Below W9.heap.size W9 _ from by assumption).size; omega)); obtain ⟨⟨c0, c1, c2, c3⟩, _⟩ := blk4 hBd Bx_W9.out (by omega); obtain ⟨⟨d0, d1, d2, d3⟩, _⟩ := blk4 hBd By3_W9.out (by omega); obtain ⟨⟨e0, e1, e2, e3⟩, _⟩ := blk4 hBd By4_W9.out (by omega);) | (go_at_call 14; with_reducible refine (same_any _ _ _ r3.1 _ _ (D3_W9.out.below (by assumption)) (D4_W9.out.below (by assumption))).mono ?_; rintro e w6 ⟨rfl, hb6⟩; have hBd : Below W9.heap.size W9 w6 := Below.trans (by assumption) (hb6.mono (by have hq := (show Below W9.heap.size W9 _ from by assumption).size; omega)); obtain ⟨⟨c0, c1, c2, c3⟩, _⟩ := blk4 hBd Bx_W9.out (by omega); obtain ⟨⟨d0, d1, d2, d3⟩, _⟩ := blk4 hBd By3_W9.out (by omega); obtain ⟨⟨e0, e1, e2, e3⟩, _⟩ := blk4 hBd By4_W9.out (by omega);) | (go_at_call 14; with_reducible refine (same_any _ _ _ (restartD d) _ _ (hD17.below hb18) hD18).mono ?_; rintro e w6 ⟨rfl, hb6⟩; have hBd : Below W9.heap.size W9 w6 := Below.trans (by assumption) (hb6.mono (by have hq := (show Below W9.heap.size W9 _ from by assumption).size; omega)); obtain ⟨⟨c0, c1, c2, c3⟩, _⟩ := blk4 hBd Bx_W9.out (by omega); obtain ⟨⟨d0, d1, d2, d3⟩, _⟩ := blk4 hBd By3_W9.out (by omega); obtain ⟨⟨e0, e1, e2, e3⟩, _⟩ := blk4 hBd By4_W9.out (by omega);) | (go_at_call 14; with_reducible refine (same_any _ _ _ (restartD d) _ _ hD17 (hD18.below hb17)).mono ?_; rintro e w6 ⟨rfl, hb6⟩; have hBd : Below W9.heap.size W9 w6 := Below.trans (by assumption) (hb6.mono (by have hq := (show Below W9.heap.size W9 _ from by assumption).size; omega)); obtain ⟨⟨c0, c1, c2, c3⟩, _⟩ := blk4 hBd Bx_W9.out (by omega); obtain ⟨⟨d0, d1, d2, d3⟩, _⟩ := blk4 hBd By3_W9.out (by omega); obtain ⟨⟨e0, e1, e2, e3⟩, _⟩ := blk4 hBd By4_W9.out (by omega);))
      all_goals (go_wp2_with fail; go_ret; exact ⟨rfl, bwW9.trans (hBd.mono bwW9.size)⟩)
  · obtain ⟨⟨c0, c1, c2, c3⟩, ⟨cf0, cf1, cf2, cf3⟩⟩ := blk4 (Below.refl _ w1) Bx_w1.out (Nat.lt_succ_self _)
    go_wp2_with fail
    refine nameW fun W2 hW2 => ?_
    have kpW2 : Kp [w.heap.size] w1 W2 := by rw [hW2.out]; repeat (first | exact Kp.refl _ _ | refine Kp.alloc ?_ _ | refine Kp.setCell ?_ (by simp) _ _ | refine Kp.drew ?_ | refine Kp.drewN ?_ _)
    have bwW2 : Below w.heap.size w W2 := by rw [hW2.out]; repeat (first | exact bww1.out | refine Below.alloc ?_ (by (repeat (first | simp only [World.size_alloc] | simp only [size_set] | simp only [World.size_drew])); omega) _ | refine Below.setCell ?_ (by first | (dsimp only; omega) | omega) _ | refine Below.drew ?_ | refine below_drewN ?_ _)
    have szW2 : w1.heap.size ≤ W2.heap.size := kpW2.size
    have Bx_W2 : Hid (W2.heap[w.heap.size]? = some (.cells #[.slice sA0 d.sectors.length sc0, .slice pA0 d.pending.length pc0, .int .i64 d.left, .bool d.stopped] 25 (0, 0))) := by show _ = _; rw [hW2.out]; (repeat (first | simp only [heap_drew] | simp only [World.heap_drewN] | simp only [heap_alloc_if] | simp only [heap_set_if] | simp only [World.size_alloc] | simp only [size_set] | simp only [World.size_drew])); (repeat (first | rw [if_pos trivial] | rw [if_pos (by omega)] | rw [if_neg (by omega)])); exact Bx_w1.out
    have ltx_W2 : w.heap.size < W2.heap.size := lt_heap Bx_W2.out
    have inW2 : InW [w.heap.size] W2 := by intro b hb; simp at hb; omega
    have D0_W2 := Lib.hid ((D0_w1.out).kp kpW2)
    clear Bx_w1 ltx_w1 D0_w1 c0 c1 c2 c3 cf0 cf1 cf2 cf3
    have C2 := Lib.hid (few_any W2 (NB [w.heap.size]) d _ D0_W2.out hL)
    refine C2.out.mono ?_
    rintro e w2 ⟨fb, rfl, hsm, hb2⟩
    clear hsm
    have Bx_w2 := Lib.hid ((hb2.block (w.heap.size) (by omega)).trans Bx_W2.out)
    have ltx_w2 : w.heap.size < w2.heap.size := lt_heap Bx_w2.out
    have D0_w2 := Lib.hid (D0_W2.out.below hb2)
    have bww2 := Lib.hid (bwW2.trans (hb2.mono bwW2.size))
    have szw2 : W2.heap.size ≤ w2.heap.size := hb2.size
    clear Bx_W2 ltx_W2 D0_W2
    clear kpW2 bwW2 inW2 hb2
    clear C2
    cases fb with
    | false =>
      go_wp2_with fail
      go_ret
      exact ⟨rfl, bww2.out⟩
    | true =>
      go_wp2_with fail
      refine nameW fun W3 hW3 => ?_
      have kpW3 : Kp [w.heap.size] w2 W3 := by rw [hW3.out]; repeat (first | exact Kp.refl _ _ | refine Kp.alloc ?_ _ | refine Kp.setCell ?_ (by simp) _ _ | refine Kp.drew ?_ | refine Kp.drewN ?_ _)
      have bwW3 : Below w.heap.size w W3 := by rw [hW3.out]; repeat (first | exact bww2.out | refine Below.alloc ?_ (by (repeat (first | simp only [World.size_alloc] | simp only [size_set] | simp only [World.size_drew])); omega) _ | refine Below.setCell ?_ (by first | (dsimp only; omega) | omega) _ | refine Below.drew ?_ | refine below_drewN ?_ _)
      have szW3 : w2.heap.size ≤ W3.heap.size := kpW3.size
      have Bx_W3 : Hid (W3.heap[w.heap.size]? = some (.cells #[.slice sA0 d.sectors.length sc0, .slice pA0 d.pending.length pc0, .int .i64 d.left, .bool d.stopped] 25 (0, 0))) := by show _ = _; rw [hW3.out]; (repeat (first | simp only [heap_drew] | simp only [World.heap_drewN] | simp only [heap_alloc_if] | simp only [heap_set_if] | simp only [World.size_alloc] | simp only [size_set] | simp only [World.size_drew])); (repeat (first | rw [if_pos trivial] | rw [if_pos (by omega)] | rw [if_neg (by omega)])); exact Bx_w2.out
      have ltx_W3 : w.heap.size < W3.heap.size := lt_heap Bx_W3.out
      have inW3 : InW [w.heap.size] W3 := by intro b hb; simp at hb; omega
      have D0_W3 := Lib.hid ((D0_w2.out).kp kpW3)
      clear Bx_w2 ltx_w2 D0_w2
      have C3 := Lib.hid (new_l [w.heap.size] W3 inW3 x)
      rw [HR3.out] at C3
      refine C3.out.mono ?_
      rintro e w3 ⟨v3, rfl, hD3, hb3⟩
      obtain ⟨sA3, sc3, pA3, pc3, rfl, -⟩ := hD3.parts
      have Bx_w3 := Lib.hid ((hb3.block (w.heap.size) (by omega)).trans Bx_W3.out)
      have ltx_w3 : w.heap.size < w3.heap.size := lt_heap Bx_w3.out
      have D0_w3 := Lib.hid (D0_W3.out.below hb3)
      have bww3 := Lib.hid (bwW3.trans (hb3.mono bwW3.size))
      have szw3 : W3.heap.size ≤ w3.heap.size := hb3.size
      clear Bx_W3 ltx_W3 D0_W3
      clear kpW3 bwW3 inW3 hb3
      have D3_w3 := Lib.hid hD3
      clear hD3 C3
      go_wp2_with fail
      refine nameW fun W4 hW4 => ?_
      have kpW4 : Kp [w3.heap.size, w.heap.size] w3 W4 := by rw [hW4.out]; repeat (first | exact Kp.refl _ _ | refine Kp.alloc ?_ _ | refine Kp.setCell ?_ (by simp) _ _ | refine Kp.drew ?_ | refine Kp.drewN ?_ _)
      have bwW4 : Below w.heap.size w W4 := by rw [hW4.out]; repeat (first | exact bww3.out | refine Below.alloc ?_ (by (repeat (first | simp only [World.size_alloc] | simp only [size_set] | simp only [World.size_drew])); omega) _ | refine Below.setCell ?_ (by first | (dsimp only; omega) | omega) _ | refine Below.drew ?_ | refine below_drewN ?_ _)
      have szW4 : w3.heap.size ≤ W4.heap.size := kpW4.size
      have By3_W4 : Hid (W4.heap[w3.heap.size]? = some (.cells #[.slice sA3 r3.1.sectors.length sc3, .slice pA3 r3.1.pending.length pc3, .int .i64 r3.1.left, .bool r3.1.stopped] 25 (0, 0))) := by show _ = _; rw [hW4.out]; (repeat (first | simp only [heap_drew] | simp only [World.heap_drewN] | simp only [heap_alloc_if] | simp only [heap_set_if] | simp only [World.size_alloc] | simp only [size_set] | simp only [World.size_drew])); (repeat (first | rw [if_pos trivial] | rw [if_pos (by omega)] | rw [if_neg (by omega)]))
      have lty3_W4 : w3.heap.size < W4.heap.size := lt_heap By3_W4.out
      have mky3 : w3.heap.size < W4.heap.size := lty3_W4
      have Bx_W4 : Hid (W4.heap[w.heap.size]? = some (.cells #[.slice sA0 d.sectors.length sc0, .slice pA0 d.pending.length pc0, .int .i64 d.left, .bool d.stopped] 25 (0, 0))) := by show _ = _; rw [hW4.out]; (repeat (first | simp only [heap_drew] | simp only [World.heap_drewN] | simp only [heap_alloc_if] | simp only [heap_set_if] | simp only [World.size_alloc] | simp only [size_set] | simp only [World.size_drew])); (repeat (first | rw [if_pos trivial] | rw [if_pos (by omega)] | rw [if_neg (by omega)])); exact Bx_w3.out
      have ltx_W4 : w.heap.size < W4.heap.size := lt_heap Bx_W4.out
      have inW4 : InW [w3.heap.size, w.heap.size] W4 := by intro b hb; simp at hb; omega
      have D0_W4 := Lib.hid (((D0_w3.out).box (by omega)).kp kpW4)
      have D3_W4 := Lib.hid (((D3_w3.out).box (by omega)).kp kpW4)
      clear Bx_w3 ltx_w3 D0_w3 D3_w3
      have C4 := Lib.hid (refNew_l [w3.heap.size, w.heap.size] W4 inW4 x)
      rw [HR3.out] at C4
      refine C4.out.mono ?_
      rintro e w4 ⟨v4, rfl, hD4, hb4⟩
      obtain ⟨sA4, sc4, pA4, pc4, rfl, -⟩ := hD4.parts
      have Bx_w4 := Lib.hid ((hb4.block (w.heap.size) (by omega)).trans Bx_W4.out)
      have ltx_w4 : w.heap.size < w4.heap.size := lt_heap Bx_w4.out
      have By3_w4 := Lib.hid ((hb4.block (w3.heap.size) (by omega)).trans By3_W4.out)
      have lty3_w4 : w3.heap.size < w4.heap.size := lt_heap By3_w4.out
      have D0_w4 := Lib.hid (D0_W4.out.below hb4)
      have D3_w4 := Lib.hid (D3_W4.out.below hb4)
      have bww4 := Lib.hid (bwW4.trans (hb4.mono bwW4.size))
      have szw4 : W4.heap.size ≤ w4.heap.size := hb4.size
      clear Bx_W4 By3_W4 ltx_W4 lty3_W4 D0_W4 D3_W4
      clear kpW4 bwW4 inW4 hb4
      have D4_w4 := Lib.hid hD4
      clear hD4 C4
      go_wp2_with fail
      refine nameC fun W9 hW9 => ?_
      have kpW9 : Kp [w4.heap.size, w3.heap.size, w.heap.size] w4 W9 := by rw [hW9.out]; repeat (first | exact Kp.refl _ _ | refine Kp.alloc ?_ _ | refine Kp.setCell ?_ (by simp) _ _ | refine Kp.drew ?_ | refine Kp.drewN ?_ _)
      have bwW9 : Below w.heap.size w W9 := by rw [hW9.out]; repeat (first | exact bww4.out | refine Below.alloc ?_ (by (repeat (first | simp only [World.size_alloc] | simp only [size_set] | simp only [World.size_drew])); omega) _ | refine Below.setCell ?_ (by first | (dsimp only; omega) | omega) _ | refine Below.drew ?_ | refine below_drewN ?_ _)
      have szW9 : w4.heap.size ≤ W9.heap.size := kpW9.size
      have By4_W9 : Hid (W9.heap[w4.heap.size]? = some (.cells #[.slice sA4 r3.1.sectors.length sc4, .slice pA4 r3.1.pending.length pc4, .int .i64 r3.1.left, .bool r3.1.stopped] 25 (0, 0))) := by show _ = _; rw [hW9.out]; (repeat (first | simp only [heap_drew] | simp only [World.heap_drewN] | simp only [heap_alloc_if] | simp only [heap_set_if] | simp only [World.size_alloc] | simp only [size_set] | simp only [World.size_drew])); (repeat (first | rw [if_pos trivial] | rw [if_pos (by omega)] | rw [if_neg (by omega)]))
      have lty4_W9 : w4.heap.size < W9.heap.size := lt_heap By4_W9.out
      have mky4 : w4.heap.size < W9.heap.size := lty4_W9
      have Bx_W9 : Hid (W9.heap[w.heap.size]? = some (.cells #[.slice sA0 d.sectors.length sc0, .slice pA0 d.pending.length pc0, .int .i64 d.left, .bool d.stopped] 25 (0, 0))) := by show _ = _; rw [hW9.out]; (repeat (first | simp only [heap_drew] | simp only [World.heap_drewN] | simp only [heap_alloc_if] | simp only [heap_set_if] | simp only [World.size_alloc] | simp only [size_set] | simp only [World.size_drew])); (repeat (first | rw [if_pos trivial] | rw [if_pos (by omega)] | rw [if_neg (by omega)])); exact Bx_w4.out
      have ltx_W9 : w.heap.size < W9.heap.size := lt_heap Bx_W9.out
      have By3_W9 : Hid (W9.heap[w3.heap.size]? = some (.cells #[.slice sA3 r3.1.sectors.length sc3, .slice pA3 r3.1.pending.length pc3, .int .i64 r3.1.left, .bool r3.1.stopped] 25 (0, 0))) := by show _ = _; rw [hW9.out]; (repeat (first | simp only [heap_drew] | simp only [World.heap_drewN] | simp only [heap_alloc_if] | simp only [heap_set_if] | simp only [World.size_alloc] | simp only [size_set] | simp only [World.size_drew])); (repeat (first | rw [if_pos trivial] | rw [if_pos (by omega)] | rw [if_neg (by omega)])); exact By3_w4.out
      have lty3_W9 : w3.heap.size < W9.heap.size := lt_heap By3_W9.out
      have inW9 : InW [w4.heap.size, w3.heap.size, w.heap.size] W9 := by intro b hb; simp at hb; omega
      have D0_W9 := Lib.hid (((D0_w4.out).box (by omega)).kp kpW9)
      have D3_W9 := Lib.hid (((D3_w4.out).box (by omega)).kp kpW9)
      have D4_W9 := Lib.hid (((D4_w4.out).box (by omega)).kp kpW9)
      clear Bx_w4 By3_w4 ltx_w4 lty3_w4 D0_w4 D3_w4 D4_w4
      obtain ⟨⟨c0, c1, c2, c3⟩, ⟨cf0, cf1, cf2, cf3⟩⟩ := blk4 (Below.refl _ W9) Bx_W9.out (Nat.lt_succ_self _)
      obtain ⟨⟨d0, d1, d2, d3⟩, ⟨df0, df1, df2, df3⟩⟩ := blk4 (Below.refl _ W9) By3_W9.out (Nat.lt_succ_self _)
      obtain ⟨⟨e0, e1, e2, e3⟩, ⟨ef0, ef1, ef2, ef3⟩⟩ := blk4 (Below.refl _ W9) By4_W9.out (Nat.lt_succ_self _)
      have he3 : (r3.2 == r3.2) = true := by simp
      have hec : (chk d == chk d) = true := by simp
      have hBd : Below W9.heap.size W9 W9.drew := (Below.refl _ _).drew
      go_region_held3 (fun w' => w'.cell? ⟨w.heap.size, 0, none⟩ = some (.slice sA0 d.sectors.length sc0) ∧ w'.cell? ⟨w.heap.size, 1, none⟩ = some (.slice pA0 d.pending.length pc0) ∧ w'.cell? ⟨w.heap.size, 2, none⟩ = some (.int .i64 d.left) ∧ w'.cell? ⟨w.heap.size, 3, none⟩ = some (.bool d.stopped) ∧ w'.cell? ⟨w3.heap.size, 0, none⟩ = some (.slice sA3 r3.1.sectors.length sc3) ∧ w'.cell? ⟨w3.heap.size, 1, none⟩ = some (.slice pA3 r3.1.pending.length pc3) ∧ w'.cell? ⟨w3.heap.size, 2, none⟩ = some (.int .i64 r3.1.left) ∧ w'.cell? ⟨w3.heap.size, 3, none⟩ = some (.bool r3.1.stopped) ∧ w'.cell? ⟨w4.heap.size, 0, none⟩ = some (.slice sA4 r3.1.sectors.length sc4) ∧ w'.cell? ⟨w4.heap.size, 1, none⟩ = some (.slice pA4 r3.1.pending.length pc4) ∧ w'.cell? ⟨w4.heap.size, 2, none⟩ = some (.int .i64 r3.1.left) ∧ w'.cell? ⟨w4.heap.size, 3, none⟩ = some (.bool r3.1.stopped)) (first | with_reducible exact ⟨c0, c1, c2, c3, d0, d1, d2, d3, e0, e1, e2, e3⟩ | go_keep) (first | (go_at_call 15; refine (check_any _ (NB [w4.heap.size, w3.heap.size, w.heap.size]) d _ (D0_W9.out.below (by assumption))).mono ?_; rintro e w6 ⟨rfl, hb6⟩; have hBd : Below W9.heap.size W9 w6 := Below.trans (by assumption) (hb6.mono (by have hq := (show Below W9.heap.size W9 _ from by assumption).size; omega)); obtain ⟨⟨c0, c1, c2, c3⟩, _⟩ := blk4 hBd Bx_W9.out (by omega); obtain ⟨⟨d0, d1, d2, d3⟩, _⟩ := blk4 hBd By3_W9.out (by omega); obtain ⟨⟨e0, e1, e2, e3⟩, _⟩ := blk4 hBd By4_W9.out (by omega);) | (go_at_call 16; refine (refCheck_any _ (NB [w4.heap.size, w3.heap.size, w.heap.size]) d _ (D0_W9.out.below (by assumption))).mono ?_; rintro e w6 ⟨rfl, hb6⟩; have hBd : Below W9.heap.size W9 w6 := Below.trans (by assumption) (hb6.mono (by have hq := (show Below W9.heap.size W9 _ from by assumption).size; omega)); obtain ⟨⟨c0, c1, c2, c3⟩, _⟩ := blk4 hBd Bx_W9.out (by omega); obtain ⟨⟨d0, d1, d2, d3⟩, _⟩ := blk4 hBd By3_W9.out (by omega); obtain ⟨⟨e0, e1, e2, e3⟩, _⟩ := blk4 hBd By4_W9.out (by omega);) | (go_at_call 17; refine (restart_any _ (NB [w4.heap.size, w3.heap.size, w.heap.size]) d _ (D0_W9.out.below (by assumption))).mono ?_; rintro e w6 ⟨v17, rfl, hD17, hb6⟩; have hb17 := hb6; obtain ⟨sA17, sc17, pA17, pc17, rfl, -⟩ := hD17.parts; have hBd : Below W9.heap.size W9 w6 := Below.trans (by assumption) (hb6.mono (by have hq := (show Below W9.heap.size W9 _ from by assumption).size; omega)); obtain ⟨⟨c0, c1, c2, c3⟩, _⟩ := blk4 hBd Bx_W9.out (by omega); obtain ⟨⟨d0, d1, d2, d3⟩, _⟩ := blk4 hBd By3_W9.out (by omega); obtain ⟨⟨e0, e1, e2, e3⟩, _⟩ := blk4 hBd By4_W9.out (by omega);) | (go_at_call 18; refine (refRestart_any _ (NB [w4.heap.size, w3.heap.size, w.heap.size]) d _ (D0_W9.out.below (by assumption))).mono ?_; rintro e w6 ⟨v18, rfl, hD18, hb6⟩; have hb18 := hb6; obtain ⟨sA18, sc18, pA18, pc18, rfl, -⟩ := hD18.parts; have hBd : Below W9.heap.size W9 w6 := Below.trans (by assumption) (hb6.mono (by have hq := (show Below W9.heap.size W9 _ from by assumption).size; omega)); obtain ⟨⟨c0, c1, c2, c3⟩, _⟩ := blk4 hBd Bx_W9.out (by omega); obtain ⟨⟨d0, d1, d2, d3⟩, _⟩ := blk4 hBd By3_W9.out (by omega); obtain ⟨⟨e0, e1, e2, e3⟩, _⟩ := blk4 hBd By4_W9.out (by omega);) | (go_at_call 14; with_reducible refine (same_any _ _ _ r3.1 _ _ (D3_W9.out.below (by assumption)) (D4_W9.out.below (by assumption))).mono ?_; rintro e w6 ⟨rfl, hb6⟩; have hBd : Below W9.heap.size W9 w6 := Below.trans (by assumption) (hb6.mono (by have hq := (show Below W9.heap.size W9 _ from by assumption).size; omega)); obtain ⟨⟨c0, c1, c2, c3⟩, _⟩ := blk4 hBd Bx_W9.out (by omega); obtain ⟨⟨d0, d1, d2, d3⟩, _⟩ := blk4 hBd By3_W9.out (by omega); obtain ⟨⟨e0, e1, e2, e3⟩, _⟩ := blk4 hBd By4_W9.out (by omega);) | (go_at_call 14; with_reducible refine (same_any _ _ _ (restartD d) _ _ (hD17.below hb18) hD18).mono ?_; rintro e w6 ⟨rfl, hb6⟩; have hBd : Below W9.heap.size W9 w6 := Below.trans (by assumption) (hb6.mono (by have hq := (show Below W9.heap.size W9 _ from by assumption).size; omega)); obtain ⟨⟨c0, c1, c2, c3⟩, _⟩ := blk4 hBd Bx_W9.out (by omega); obtain ⟨⟨d0, d1, d2, d3⟩, _⟩ := blk4 hBd By3_W9.out (by omega); obtain ⟨⟨e0, e1, e2, e3⟩, _⟩ := blk4 hBd By4_W9.out (by omega);) | (go_at_call 14; with_reducible refine (same_any _ _ _ (restartD d) _ _ hD17 (hD18.below hb17)).mono ?_; rintro e w6 ⟨rfl, hb6⟩; have hBd : Below W9.heap.size W9 w6 := Below.trans (by assumption) (hb6.mono (by have hq := (show Below W9.heap.size W9 _ from by assumption).size; omega)); obtain ⟨⟨c0, c1, c2, c3⟩, _⟩ := blk4 hBd Bx_W9.out (by omega); obtain ⟨⟨d0, d1, d2, d3⟩, _⟩ := blk4 hBd By3_W9.out (by omega); obtain ⟨⟨e0, e1, e2, e3⟩, _⟩ := blk4 hBd By4_W9.out (by omega);))
      all_goals (go_wp2_with fail; go_ret; exact ⟨rfl, bwW9.trans (hBd.mono bwW9.size)⟩)
theorem parts_nil {w : World} {M : Nat → Prop} {v : Value} {ss : List (List UInt8)} {l : Int} {b : Bool} (h : IsDisk w M v ⟨ss, [], l, b⟩) : ∃ sA sc pA pc, v = .agg #[.slice sA ss.length sc, .slice pA 0 pc, .int .i64 l, .bool b] := by
  obtain ⟨sA, sc, pA, pc, e, -⟩ := h.parts
  exact ⟨sA, sc, pA, pc, e⟩
theorem mat_of {w : World} {M : Nat → Prop} {A : Option Addr} {n c : Nat} {a b c' : Value} {d : DiskD} (h : IsDisk w M (.agg #[.slice A n c, a, b, c']) d) : ∃ (_ : True) (_ : True), MatC w M A d.sectors := by
  obtain ⟨sA, sc, pA, pc, e, -, -, hm, -⟩ := h.parts
  injection e with e
  injection e with e
  injection e with e1 e2
  injection e1 with e3
  subst e3
  exact ⟨trivial, trivial, hm⟩
theorem IsDisk.stopped {w : World} {M : Nat → Prop} {a b c s : Value} {d : DiskD} (h : IsDisk w M (.agg #[a, b, c, s]) d) : IsDisk w M (.agg #[a, b, c, .bool true]) ⟨d.sectors, d.pending, d.left, true⟩ := by
  obtain ⟨sv, pv, e, h1, h2⟩ := h
  injection e with e
  injection e with e
  injection e with e1 e
  injection e with e2 e
  injection e with e3 e
  subst e1 e2 e3
  exact ⟨_, _, rfl, h1, h2⟩
theorem rd340 {ss : List (List UInt8)} {ps : List Wr} {l x : Int} : readD ⟨ss, ps, l, true⟩ x = ([], 340) := by simp [readD, runsB]
theorem wr340 {ss : List (List UInt8)} {ps : List Wr} {l x : Int} {b : List UInt8} : writeD ⟨ss, ps, l, true⟩ x b = (zeroD, 340) := by simp [writeD, runsB]
theorem sy340 {ss : List (List UInt8)} {ps : List Wr} {l : Int} : syncD ⟨ss, ps, l, true⟩ = (zeroD, 340) := by simp [syncD, runsB]
theorem st340 {ss : List (List UInt8)} {ps : List Wr} {l x : Int} : stopD ⟨ss, ps, l, true⟩ x = (zeroD, 340) := by simp [stopD, runsB]
set_option maxRecDepth 100000 in
set_option maxHeartbeats 2000000 in
theorem law9 (w : World) (d : DiskD) (v : Value) (h : IsDisk w (NB []) v d) (hL : Lens d) (x y : Int) (b : List UInt8) (u : Value) (hb : IsBytes w (NB []) u b) : Calls Try.prog 9 #[v, .int .i64 x, .int .i64 y, u] w fun e w' => e = .returned (.bool true) ∧ Below w.heap.size w w' := by
  obtain ⟨sA0, sc0, pA0, pc0, rfl, hsA1, hsA2, -⟩ := h.parts
  have D0_w := Lib.hid h
  clear h
  have Y0_w := Lib.hid hb
  clear hb
  obtain ⟨bA, bc, rfl, hb1, hb2, -⟩ := Y0_w.out
  go_enter Try.func9, Try.ntmps9
  go_wp2_with fail
  refine nameW fun W1 hW1 => ?_
  have kpW1 : Kp [w.heap.size] w W1 := by rw [hW1.out]; repeat (first | exact Kp.refl _ _ | refine Kp.alloc ?_ _ | refine Kp.setCell ?_ (by simp) _ _ | refine Kp.drew ?_ | refine Kp.drewN ?_ _)
  have bwW1 : Below w.heap.size w W1 := by rw [hW1.out]; repeat (first | exact Below.refl _ _ | refine Below.alloc ?_ (by (repeat (first | simp only [World.size_alloc] | simp only [size_set] | simp only [World.size_drew])); omega) _ | refine Below.setCell ?_ (by first | (dsimp only; omega) | omega) _ | refine Below.drew ?_ | refine below_drewN ?_ _)
  have szW1 : w.heap.size ≤ W1.heap.size := kpW1.size
  have Bx_W1 : Hid (W1.heap[w.heap.size]? = some (.cells #[.slice sA0 d.sectors.length sc0, .slice pA0 d.pending.length pc0, .int .i64 d.left, .bool d.stopped] 25 (0, 0))) := by show _ = _; rw [hW1.out]; (repeat (first | simp only [heap_drew] | simp only [World.heap_drewN] | simp only [heap_alloc_if] | simp only [heap_set_if] | simp only [World.size_alloc] | simp only [size_set] | simp only [World.size_drew])); (repeat (first | rw [if_pos trivial] | rw [if_pos (by omega)] | rw [if_neg (by omega)]))
  have ltx_W1 : w.heap.size < W1.heap.size := lt_heap Bx_W1.out
  have mkx : w.heap.size < W1.heap.size := ltx_W1
  have inW1 : InW [w.heap.size] W1 := by intro b hb; simp at hb; omega
  have D0_W1 := Lib.hid (((D0_w.out).box (by omega)).kp kpW1)
  have Y0_W1 := Lib.hid (((Y0_w.out).box (by omega)).kp kpW1)
  clear D0_w Y0_w
  have C1 := Lib.hid (sane_any W1)
  refine C1.out.mono ?_
  rintro e w1 ⟨rfl, hb1⟩
  have Bx_w1 := Lib.hid ((hb1.block (w.heap.size) (by omega)).trans Bx_W1.out)
  have ltx_w1 : w.heap.size < w1.heap.size := lt_heap Bx_w1.out
  have D0_w1 := Lib.hid (D0_W1.out.below hb1)
  have Y0_w1 := Lib.hid (Y0_W1.out.below hb1)
  have bww1 := Lib.hid (bwW1.trans (hb1.mono bwW1.size))
  have szw1 : W1.heap.size ≤ w1.heap.size := hb1.size
  clear Bx_W1 ltx_W1 D0_W1 Y0_W1
  clear kpW1 bwW1 inW1 hb1
  clear C1
  obtain ⟨⟨c0, c1, c2, c3⟩, ⟨cf0, cf1, cf2, cf3⟩⟩ := blk4 (Below.refl _ w1) Bx_w1.out (Nat.lt_succ_self _)
  go_wp2_with fail
  refine nameW fun W2 hW2 => ?_
  have kpW2 : Kp [w.heap.size] w1 W2 := by rw [hW2.out]; repeat (first | exact Kp.refl _ _ | refine Kp.alloc ?_ _ | refine Kp.setCell ?_ (by simp) _ _ | refine Kp.drew ?_ | refine Kp.drewN ?_ _)
  have bwW2 : Below w.heap.size w W2 := by rw [hW2.out]; repeat (first | exact bww1.out | refine Below.alloc ?_ (by (repeat (first | simp only [World.size_alloc] | simp only [size_set] | simp only [World.size_drew])); omega) _ | refine Below.setCell ?_ (by first | (dsimp only; omega) | omega) _ | refine Below.drew ?_ | refine below_drewN ?_ _)
  have szW2 : w1.heap.size ≤ W2.heap.size := kpW2.size
  have Bx_W2 : Hid (W2.heap[w.heap.size]? = some (.cells #[.slice sA0 d.sectors.length sc0, .slice pA0 d.pending.length pc0, .int .i64 d.left, .bool d.stopped] 25 (0, 0))) := by show _ = _; rw [hW2.out]; (repeat (first | simp only [heap_drew] | simp only [World.heap_drewN] | simp only [heap_alloc_if] | simp only [heap_set_if] | simp only [World.size_alloc] | simp only [size_set] | simp only [World.size_drew])); (repeat (first | rw [if_pos trivial] | rw [if_pos (by omega)] | rw [if_neg (by omega)])); exact Bx_w1.out
  have ltx_W2 : w.heap.size < W2.heap.size := lt_heap Bx_W2.out
  have inW2 : InW [w.heap.size] W2 := by intro b hb; simp at hb; omega
  have D0_W2 := Lib.hid ((D0_w1.out).kp kpW2)
  have Y0_W2 := Lib.hid ((Y0_w1.out).kp kpW2)
  clear Bx_w1 ltx_w1 D0_w1 Y0_w1 c0 c1 c2 c3 cf0 cf1 cf2 cf3
  have C2 := Lib.hid (few_any W2 (NB [w.heap.size]) d _ D0_W2.out hL)
  refine C2.out.mono ?_
  rintro e w2 ⟨fb, rfl, hsm, hb2⟩
  have HSM := Lib.hid hsm
  clear hsm
  have Bx_w2 := Lib.hid ((hb2.block (w.heap.size) (by omega)).trans Bx_W2.out)
  have ltx_w2 : w.heap.size < w2.heap.size := lt_heap Bx_w2.out
  have D0_w2 := Lib.hid (D0_W2.out.below hb2)
  have Y0_w2 := Lib.hid (Y0_W2.out.below hb2)
  have bww2 := Lib.hid (bwW2.trans (hb2.mono bwW2.size))
  have szw2 : W2.heap.size ≤ w2.heap.size := hb2.size
  clear Bx_W2 ltx_W2 D0_W2 Y0_W2
  clear kpW2 bwW2 inW2 hb2
  clear C2
  cases fb with
  | false =>
    go_wp2_with fail
    go_ret
    exact ⟨rfl, bww2.out⟩
  | true =>
    by_cases hlong : 1000 < b.length
    · have hlong' : (1000 : Int) < (b.length : Int) := by omega
      go_wp2_with fail
      go_ret
      exact ⟨rfl, bww2.out⟩
    have hshort : ¬ (1000 : Int) < (b.length : Int) := by omega
    obtain ⟨⟨c0, c1, c2, c3⟩, ⟨cf0, cf1, cf2, cf3⟩⟩ := blk4 (Below.refl _ w2) Bx_w2.out (Nat.lt_succ_self _)
    go_wp2_with fail
    refine nameW fun W3 hW3 => ?_
    have kpW3 : Kp [w.heap.size] w2 W3 := by rw [hW3.out]; repeat (first | exact Kp.refl _ _ | refine Kp.alloc ?_ _ | refine Kp.setCell ?_ (by simp) _ _ | refine Kp.drew ?_ | refine Kp.drewN ?_ _)
    have bwW3 : Below w.heap.size w W3 := by rw [hW3.out]; repeat (first | exact bww2.out | refine Below.alloc ?_ (by (repeat (first | simp only [World.size_alloc] | simp only [size_set] | simp only [World.size_drew])); omega) _ | refine Below.setCell ?_ (by first | (dsimp only; omega) | omega) _ | refine Below.drew ?_ | refine below_drewN ?_ _)
    have szW3 : w2.heap.size ≤ W3.heap.size := kpW3.size
    have Bx_W3 : Hid (W3.heap[w.heap.size]? = some (.cells #[.slice sA0 d.sectors.length sc0, .slice pA0 d.pending.length pc0, .int .i64 d.left, .bool d.stopped] 25 (0, 0))) := by show _ = _; rw [hW3.out]; (repeat (first | simp only [heap_drew] | simp only [World.heap_drewN] | simp only [heap_alloc_if] | simp only [heap_set_if] | simp only [World.size_alloc] | simp only [size_set] | simp only [World.size_drew])); (repeat (first | rw [if_pos trivial] | rw [if_pos (by omega)] | rw [if_neg (by omega)])); exact Bx_w2.out
    have ltx_W3 : w.heap.size < W3.heap.size := lt_heap Bx_W3.out
    have inW3 : InW [w.heap.size] W3 := by intro b hb; simp at hb; omega
    have D0_W3 := Lib.hid ((D0_w2.out).kp kpW3)
    have Y0_W3 := Lib.hid ((Y0_w2.out).kp kpW3)
    clear Bx_w2 ltx_w2 D0_w2 Y0_w2 c0 c1 c2 c3 cf0 cf1 cf2 cf3
    have C3 : Hid (Calls Try.prog 17 #[.agg #[.slice sA0 d.sectors.length sc0, .slice pA0 d.pending.length pc0, .int .i64 d.left, .bool d.stopped]] W3 (Disk1 [w.heap.size] W3 ⟨d.sectors, [], -1, false⟩)) := restart_l [w.heap.size] W3 d _ D0_W3.out
    refine C3.out.mono ?_
    rintro e w3 ⟨v3, rfl, hD3, hb3⟩
    obtain ⟨sA3, sc3, pA3, pc3, rfl⟩ := parts_nil hD3
    have Bx_w3 := Lib.hid ((hb3.block (w.heap.size) (by omega)).trans Bx_W3.out)
    have ltx_w3 : w.heap.size < w3.heap.size := lt_heap Bx_w3.out
    have D0_w3 := Lib.hid (D0_W3.out.below hb3)
    have Y0_w3 := Lib.hid (Y0_W3.out.below hb3)
    have bww3 := Lib.hid (bwW3.trans (hb3.mono bwW3.size))
    have szw3 : W3.heap.size ≤ w3.heap.size := hb3.size
    clear Bx_W3 ltx_W3 D0_W3 Y0_W3
    clear kpW3 bwW3 inW3 hb3
    have D3_w3 := Lib.hid hD3
    clear hD3 C3
    obtain ⟨⟨e0, e1, e2, e3⟩, ⟨ef0, ef1, ef2, ef3⟩⟩ := blk4 (Below.refl _ w3) Bx_w3.out (Nat.lt_succ_self _)
    go_wp2_with fail
    refine nameW fun W4 hW4 => ?_
    have kpW4 : Kp [w3.heap.size, w.heap.size] w3 W4 := by rw [hW4.out]; repeat (first | exact Kp.refl _ _ | refine Kp.alloc ?_ _ | refine Kp.setCell ?_ (by simp) _ _ | refine Kp.drew ?_ | refine Kp.drewN ?_ _)
    have bwW4 : Below w.heap.size w W4 := by rw [hW4.out]; repeat (first | exact bww3.out | refine Below.alloc ?_ (by (repeat (first | simp only [World.size_alloc] | simp only [size_set] | simp only [World.size_drew])); omega) _ | refine Below.setCell ?_ (by first | (dsimp only; omega) | omega) _ | refine Below.drew ?_ | refine below_drewN ?_ _)
    have szW4 : w3.heap.size ≤ W4.heap.size := kpW4.size
    have By3_W4 : Hid (W4.heap[w3.heap.size]? = some (.cells #[.slice sA3 d.sectors.length sc3, .slice pA3 0 pc3, .int .i64 (-1), .bool false] 25 (0, 0))) := by show _ = _; rw [hW4.out]; (repeat (first | simp only [heap_drew] | simp only [World.heap_drewN] | simp only [heap_alloc_if] | simp only [heap_set_if] | simp only [World.size_alloc] | simp only [size_set] | simp only [World.size_drew])); (repeat (first | rw [if_pos trivial] | rw [if_pos (by omega)] | rw [if_neg (by omega)]))
    have lty3_W4 : w3.heap.size < W4.heap.size := lt_heap By3_W4.out
    have mky3 : w3.heap.size < W4.heap.size := lty3_W4
    have Bx_W4 : Hid (W4.heap[w.heap.size]? = some (.cells #[.slice sA0 d.sectors.length sc0, .slice pA0 d.pending.length pc0, .int .i64 d.left, .bool d.stopped] 25 (0, 0))) := by show _ = _; rw [hW4.out]; (repeat (first | simp only [heap_drew] | simp only [World.heap_drewN] | simp only [heap_alloc_if] | simp only [heap_set_if] | simp only [World.size_alloc] | simp only [size_set] | simp only [World.size_drew])); (repeat (first | rw [if_pos trivial] | rw [if_pos (by omega)] | rw [if_neg (by omega)])); exact Bx_w3.out
    have ltx_W4 : w.heap.size < W4.heap.size := lt_heap Bx_W4.out
    have inW4 : InW [w3.heap.size, w.heap.size] W4 := by intro b hb; simp at hb; omega
    have D0_W4 := Lib.hid (((D0_w3.out).box (by omega)).kp kpW4)
    have Y0_W4 := Lib.hid (((Y0_w3.out).box (by omega)).kp kpW4)
    have D3_W4 := Lib.hid (((D3_w3.out).box (by omega)).kp kpW4)
    clear Bx_w3 ltx_w3 D0_w3 Y0_w3 D3_w3 e0 e1 e2 e3 ef0 ef1 ef2 ef3
    have C4 : Hid (Calls Try.prog 17 #[.agg #[.slice sA3 d.sectors.length sc3, .slice pA3 0 pc3, .int .i64 (-1), .bool false]] W4 (Disk1 [w3.heap.size, w.heap.size] W4 ⟨d.sectors, [], -1, false⟩)) := restart_l [w3.heap.size, w.heap.size] W4 ⟨d.sectors, [], -1, false⟩ _ D3_W4.out
    refine C4.out.mono ?_
    rintro e w4 ⟨v4, rfl, hD4, hb4⟩
    obtain ⟨sA4, sc4, pA4, pc4, rfl⟩ := parts_nil hD4
    have Bx_w4 := Lib.hid ((hb4.block (w.heap.size) (by omega)).trans Bx_W4.out)
    have ltx_w4 : w.heap.size < w4.heap.size := lt_heap Bx_w4.out
    have By3_w4 := Lib.hid ((hb4.block (w3.heap.size) (by omega)).trans By3_W4.out)
    have lty3_w4 : w3.heap.size < w4.heap.size := lt_heap By3_w4.out
    have D0_w4 := Lib.hid (D0_W4.out.below hb4)
    have Y0_w4 := Lib.hid (Y0_W4.out.below hb4)
    have D3_w4 := Lib.hid (D3_W4.out.below hb4)
    have bww4 := Lib.hid (bwW4.trans (hb4.mono bwW4.size))
    have szw4 : W4.heap.size ≤ w4.heap.size := hb4.size
    clear Bx_W4 By3_W4 ltx_W4 lty3_W4 D0_W4 Y0_W4 D3_W4
    clear kpW4 bwW4 inW4 hb4
    have D4_w4 := Lib.hid hD4
    clear hD4 C4
    obtain ⟨⟨c0, c1, c2, c3⟩, ⟨cf0, cf1, cf2, cf3⟩⟩ := blk4 (Below.refl _ w4) By3_w4.out (Nat.lt_succ_self _)
    obtain ⟨⟨e0, e1, e2, e3⟩, ⟨ef0, ef1, ef2, ef3⟩⟩ := blk4 (Below.refl _ w4) Bx_w4.out (Nat.lt_succ_self _)
    have hll : ((d.sectors.length : Int) != (d.sectors.length : Int)) = false := by simp
    go_wp2_with fail
    refine nameW fun W5 hW5 => ?_
    have kpW5 : Kp [w4.heap.size, w3.heap.size, w.heap.size] w4 W5 := by rw [hW5.out]; repeat (first | exact Kp.refl _ _ | refine Kp.alloc ?_ _ | refine Kp.setCell ?_ (by simp) _ _ | refine Kp.drew ?_ | refine Kp.drewN ?_ _)
    have bwW5 : Below w.heap.size w W5 := by rw [hW5.out]; repeat (first | exact bww4.out | refine Below.alloc ?_ (by (repeat (first | simp only [World.size_alloc] | simp only [size_set] | simp only [World.size_drew])); omega) _ | refine Below.setCell ?_ (by first | (dsimp only; omega) | omega) _ | refine Below.drew ?_ | refine below_drewN ?_ _)
    have szW5 : w4.heap.size ≤ W5.heap.size := kpW5.size
    have By4_W5 : Hid (W5.heap[w4.heap.size]? = some (.cells #[.slice sA4 d.sectors.length sc4, .slice pA4 0 pc4, .int .i64 (-1), .bool false] 25 (0, 0))) := by show _ = _; rw [hW5.out]; (repeat (first | simp only [heap_drew] | simp only [World.heap_drewN] | simp only [heap_alloc_if] | simp only [heap_set_if] | simp only [World.size_alloc] | simp only [size_set] | simp only [World.size_drew])); (repeat (first | rw [if_pos trivial] | rw [if_pos (by omega)] | rw [if_neg (by omega)]))
    have lty4_W5 : w4.heap.size < W5.heap.size := lt_heap By4_W5.out
    have mky4 : w4.heap.size < W5.heap.size := lty4_W5
    have Bx_W5 : Hid (W5.heap[w.heap.size]? = some (.cells #[.slice sA0 d.sectors.length sc0, .slice pA0 d.pending.length pc0, .int .i64 d.left, .bool d.stopped] 25 (0, 0))) := by show _ = _; rw [hW5.out]; (repeat (first | simp only [heap_drew] | simp only [World.heap_drewN] | simp only [heap_alloc_if] | simp only [heap_set_if] | simp only [World.size_alloc] | simp only [size_set] | simp only [World.size_drew])); (repeat (first | rw [if_pos trivial] | rw [if_pos (by omega)] | rw [if_neg (by omega)])); exact Bx_w4.out
    have ltx_W5 : w.heap.size < W5.heap.size := lt_heap Bx_W5.out
    have By3_W5 : Hid (W5.heap[w3.heap.size]? = some (.cells #[.slice sA3 d.sectors.length sc3, .slice pA3 0 pc3, .int .i64 (-1), .bool false] 25 (0, 0))) := by show _ = _; rw [hW5.out]; (repeat (first | simp only [heap_drew] | simp only [World.heap_drewN] | simp only [heap_alloc_if] | simp only [heap_set_if] | simp only [World.size_alloc] | simp only [size_set] | simp only [World.size_drew])); (repeat (first | rw [if_pos trivial] | rw [if_pos (by omega)] | rw [if_neg (by omega)])); exact By3_w4.out
    have lty3_W5 : w3.heap.size < W5.heap.size := lt_heap By3_W5.out
    have inW5 : InW [w4.heap.size, w3.heap.size, w.heap.size] W5 := by intro b hb; simp at hb; omega
    have D0_W5 := Lib.hid (((D0_w4.out).box (by omega)).kp kpW5)
    have Y0_W5 := Lib.hid (((Y0_w4.out).box (by omega)).kp kpW5)
    have D3_W5 := Lib.hid (((D3_w4.out).box (by omega)).kp kpW5)
    have D4_W5 := Lib.hid (((D4_w4.out).box (by omega)).kp kpW5)
    clear Bx_w4 By3_w4 ltx_w4 lty3_w4 D0_w4 Y0_w4 D3_w4 D4_w4 c0 c1 c2 c3 cf0 cf1 cf2 cf3 e0 e1 e2 e3 ef0 ef1 ef2 ef3
    have C5 := Lib.hid (same_any W5 _ _ _ _ _ D3_W5.out D4_W5.out)
    refine C5.out.mono ?_
    rintro e w5 ⟨rfl, hb5⟩
    have Bx_w5 := Lib.hid ((hb5.block (w.heap.size) (by omega)).trans Bx_W5.out)
    have ltx_w5 : w.heap.size < w5.heap.size := lt_heap Bx_w5.out
    have By3_w5 := Lib.hid ((hb5.block (w3.heap.size) (by omega)).trans By3_W5.out)
    have lty3_w5 : w3.heap.size < w5.heap.size := lt_heap By3_w5.out
    have By4_w5 := Lib.hid ((hb5.block (w4.heap.size) (by omega)).trans By4_W5.out)
    have lty4_w5 : w4.heap.size < w5.heap.size := lt_heap By4_w5.out
    have D0_w5 := Lib.hid (D0_W5.out.below hb5)
    have Y0_w5 := Lib.hid (Y0_W5.out.below hb5)
    have D3_w5 := Lib.hid (D3_W5.out.below hb5)
    have D4_w5 := Lib.hid (D4_W5.out.below hb5)
    have bww5 := Lib.hid (bwW5.trans (hb5.mono bwW5.size))
    have szw5 : W5.heap.size ≤ w5.heap.size := hb5.size
    clear Bx_W5 By3_W5 By4_W5 ltx_W5 lty3_W5 lty4_W5 D0_W5 Y0_W5 D3_W5 D4_W5
    clear kpW5 bwW5 inW5 hb5
    clear C5
    obtain ⟨⟨c0, c1, c2, c3⟩, ⟨cf0, cf1, cf2, cf3⟩⟩ := blk4 (Below.refl _ w5) By3_w5.out (Nat.lt_succ_self _)
    obtain ⟨⟨e0, e1, e2, e3⟩, ⟨ef0, ef1, ef2, ef3⟩⟩ := blk4 (Below.refl _ w5) Bx_w5.out (Nat.lt_succ_self _)
    go_wp2_with fail
    have HD0 := D0_w5
    have HD3 := D3_w5
    obtain ⟨ss0, sd0, hm0⟩ := mat_of HD0.out
    obtain ⟨ss3, sd3, hm3⟩ := mat_of HD3.out
    go_loopw [11] (fun i wr => ∃ (k m : Nat), k ≤ d.sectors.length ∧ i = .int .i64 k ∧ wr = w5.drewN m) (fun i _ => d.sectors.length - (intOf i).toNat)
    case atStart => exact ⟨0, 0, Nat.zero_le _, rfl, rfl⟩
    case round =>
      obtain ⟨k, m, hk, rfl, rfl⟩ := hrel
      by_cases hlt : k < d.sectors.length
      · obtain ⟨b1, o1, bA1, bc1, rfl, -, hck1, -, -, hby1⟩ := hm0.at_ (Below.refl _ _) hlt
        obtain ⟨b2, o2, bA2, bc2, rfl, -, hck2, -, -, hby2⟩ := hm3.at_ (Below.refl _ _) hlt
        have hcv1 := fun nq => conv_bytes bc1 (w := w5.drewN nq) hby1
        have hcv2 := fun nq => conv_bytes bc2 (w := w5.drewN nq) hby2
        have hk0 : (0 : Int) ≤ (k : Int) := by omega
        have hk1 : (k : Int) < (d.sectors.length : Int) := by omega
        go_wp2_with fail
        go_quiet (fail)
        go_wp2_with fail
        go_roundw
        case rel => exact ⟨k + 1, _, by omega, by go_num, rfl⟩
        case measure => simp [intOf]; omega
      obtain ⟨wl, hwl⟩ : ∃ wl, w5.drewN m = wl := ⟨_, rfl⟩
      have hbl : Below w5.heap.size w5 wl := by rw [← hwl]; exact below_drewN (Below.refl _ _) _
      rw [hwl]
      clear hwl
      have bww5 := bww5.out
      have kpw5 : True := trivial
      have inw5 : True := trivial
      clear c0 c1 c2 c3 cf0 cf1 cf2 cf3 e0 e1 e2 e3 ef0 ef1 ef2 ef3
      have Bx_wl := Lib.hid ((hbl.block (w.heap.size) (by omega)).trans Bx_w5.out)
      have ltx_wl : w.heap.size < wl.heap.size := lt_heap Bx_wl.out
      have By3_wl := Lib.hid ((hbl.block (w3.heap.size) (by omega)).trans By3_w5.out)
      have lty3_wl : w3.heap.size < wl.heap.size := lt_heap By3_wl.out
      have By4_wl := Lib.hid ((hbl.block (w4.heap.size) (by omega)).trans By4_w5.out)
      have lty4_wl : w4.heap.size < wl.heap.size := lt_heap By4_wl.out
      have D0_wl := Lib.hid (D0_w5.out.below hbl)
      have Y0_wl := Lib.hid (Y0_w5.out.below hbl)
      have D3_wl := Lib.hid (D3_w5.out.below hbl)
      have D4_wl := Lib.hid (D4_w5.out.below hbl)
      have bwwl := Lib.hid (bww5.trans (hbl.mono bww5.size))
      have szwl : w5.heap.size ≤ wl.heap.size := hbl.size
      clear Bx_w5 By3_w5 By4_w5 ltx_w5 lty3_w5 lty4_w5 D0_w5 Y0_w5 D3_w5 D4_w5
      clear kpw5 bww5 inw5 hbl
      obtain ⟨⟨e0, e1, e2, e3⟩, ⟨ef0, ef1, ef2, ef3⟩⟩ := blk4 (Below.refl _ wl) Bx_wl.out (Nat.lt_succ_self _)
      go_wp2_with fail
      refine nameW fun W6 hW6 => ?_
      have kpW6 : Kp [w4.heap.size, w3.heap.size, w.heap.size] wl W6 := by rw [hW6.out]; repeat (first | exact Kp.refl _ _ | refine Kp.alloc ?_ _ | refine Kp.setCell ?_ (by simp) _ _ | refine Kp.drew ?_ | refine Kp.drewN ?_ _)
      have bwW6 : Below w.heap.size w W6 := by rw [hW6.out]; repeat (first | exact bwwl.out | refine Below.alloc ?_ (by (repeat (first | simp only [World.size_alloc] | simp only [size_set] | simp only [World.size_drew])); omega) _ | refine Below.setCell ?_ (by first | (dsimp only; omega) | omega) _ | refine Below.drew ?_ | refine below_drewN ?_ _)
      have szW6 : wl.heap.size ≤ W6.heap.size := kpW6.size
      have Bx_W6 : Hid (W6.heap[w.heap.size]? = some (.cells #[.slice sA0 d.sectors.length sc0, .slice pA0 d.pending.length pc0, .int .i64 d.left, .bool true] 25 (0, 0))) := by show _ = _; rw [hW6.out]; exact Blk_set Bx_wl.out _
      have ltx_W6 : w.heap.size < W6.heap.size := lt_heap Bx_W6.out
      have By3_W6 : Hid (W6.heap[w3.heap.size]? = some (.cells #[.slice sA3 d.sectors.length sc3, .slice pA3 0 pc3, .int .i64 (-1), .bool false] 25 (0, 0))) := by show _ = _; rw [hW6.out]; (repeat (first | simp only [heap_drew] | simp only [World.heap_drewN] | simp only [heap_alloc_if] | simp only [heap_set_if] | simp only [World.size_alloc] | simp only [size_set] | simp only [World.size_drew])); (repeat (first | rw [if_pos trivial] | rw [if_pos (by omega)] | rw [if_neg (by omega)])); exact By3_wl.out
      have lty3_W6 : w3.heap.size < W6.heap.size := lt_heap By3_W6.out
      have By4_W6 : Hid (W6.heap[w4.heap.size]? = some (.cells #[.slice sA4 d.sectors.length sc4, .slice pA4 0 pc4, .int .i64 (-1), .bool false] 25 (0, 0))) := by show _ = _; rw [hW6.out]; (repeat (first | simp only [heap_drew] | simp only [World.heap_drewN] | simp only [heap_alloc_if] | simp only [heap_set_if] | simp only [World.size_alloc] | simp only [size_set] | simp only [World.size_drew])); (repeat (first | rw [if_pos trivial] | rw [if_pos (by omega)] | rw [if_neg (by omega)])); exact By4_wl.out
      have lty4_W6 : w4.heap.size < W6.heap.size := lt_heap By4_W6.out
      have inW6 : InW [w4.heap.size, w3.heap.size, w.heap.size] W6 := by intro b hb; simp at hb; omega
      have D0_W6 := Lib.hid ((D0_wl.out).kp kpW6)
      have Y0_W6 := Lib.hid ((Y0_wl.out).kp kpW6)
      have D3_W6 := Lib.hid ((D3_wl.out).kp kpW6)
      have D4_W6 := Lib.hid ((D4_wl.out).kp kpW6)
      clear Bx_wl By3_wl By4_wl ltx_wl lty3_wl lty4_wl D0_wl Y0_wl D3_wl D4_wl e0 e1 e2 e3 ef0 ef1 ef2 ef3
      have DS_W6 := Lib.hid (D0_W6.out.stopped)
      have C6 := Lib.hid (read_l [w4.heap.size, w3.heap.size, w.heap.size] W6 _ _ DS_W6.out x)
      rw [rd340] at C6
      refine C6.out.mono ?_
      rintro e w6 ⟨v6, rfl, ⟨A6, c6, rfl, hD6⟩, hb6⟩
      have Bx_w6 := Lib.hid ((hb6.block (w.heap.size) (by omega)).trans Bx_W6.out)
      have ltx_w6 : w.heap.size < w6.heap.size := lt_heap Bx_w6.out
      have By3_w6 := Lib.hid ((hb6.block (w3.heap.size) (by omega)).trans By3_W6.out)
      have lty3_w6 : w3.heap.size < w6.heap.size := lt_heap By3_w6.out
      have By4_w6 := Lib.hid ((hb6.block (w4.heap.size) (by omega)).trans By4_W6.out)
      have lty4_w6 : w4.heap.size < w6.heap.size := lt_heap By4_w6.out
      have D0_w6 := Lib.hid (D0_W6.out.below hb6)
      have Y0_w6 := Lib.hid (Y0_W6.out.below hb6)
      have D3_w6 := Lib.hid (D3_W6.out.below hb6)
      have D4_w6 := Lib.hid (D4_W6.out.below hb6)
      have DS_w6 := Lib.hid (DS_W6.out.below hb6)
      have bww6 := Lib.hid (bwW6.trans (hb6.mono bwW6.size))
      have szw6 : W6.heap.size ≤ w6.heap.size := hb6.size
      clear Bx_W6 By3_W6 By4_W6 ltx_W6 lty3_W6 lty4_W6 D0_W6 Y0_W6 D3_W6 D4_W6 DS_W6
      clear kpW6 bwW6 inW6 hb6
      clear hD6 C6
      obtain ⟨⟨e0, e1, e2, e3⟩, ⟨ef0, ef1, ef2, ef3⟩⟩ := blk4 (Below.refl _ w6) Bx_w6.out (Nat.lt_succ_self _)
      go_wp2_with fail
      refine nameW fun W7 hW7 => ?_
      have kpW7 : Kp [w4.heap.size, w3.heap.size, w.heap.size] w6 W7 := by rw [hW7.out]; repeat (first | exact Kp.refl _ _ | refine Kp.alloc ?_ _ | refine Kp.setCell ?_ (by simp) _ _ | refine Kp.drew ?_ | refine Kp.drewN ?_ _)
      have bwW7 : Below w.heap.size w W7 := by rw [hW7.out]; repeat (first | exact bww6.out | refine Below.alloc ?_ (by (repeat (first | simp only [World.size_alloc] | simp only [size_set] | simp only [World.size_drew])); omega) _ | refine Below.setCell ?_ (by first | (dsimp only; omega) | omega) _ | refine Below.drew ?_ | refine below_drewN ?_ _)
      have szW7 : w6.heap.size ≤ W7.heap.size := kpW7.size
      have Bx_W7 : Hid (W7.heap[w.heap.size]? = some (.cells #[.slice sA0 d.sectors.length sc0, .slice pA0 d.pending.length pc0, .int .i64 d.left, .bool true] 25 (0, 0))) := by show _ = _; rw [hW7.out]; (repeat (first | simp only [heap_drew] | simp only [World.heap_drewN] | simp only [heap_alloc_if] | simp only [heap_set_if] | simp only [World.size_alloc] | simp only [size_set] | simp only [World.size_drew])); (repeat (first | rw [if_pos trivial] | rw [if_pos (by omega)] | rw [if_neg (by omega)])); exact Bx_w6.out
      have ltx_W7 : w.heap.size < W7.heap.size := lt_heap Bx_W7.out
      have By3_W7 : Hid (W7.heap[w3.heap.size]? = some (.cells #[.slice sA3 d.sectors.length sc3, .slice pA3 0 pc3, .int .i64 (-1), .bool false] 25 (0, 0))) := by show _ = _; rw [hW7.out]; (repeat (first | simp only [heap_drew] | simp only [World.heap_drewN] | simp only [heap_alloc_if] | simp only [heap_set_if] | simp only [World.size_alloc] | simp only [size_set] | simp only [World.size_drew])); (repeat (first | rw [if_pos trivial] | rw [if_pos (by omega)] | rw [if_neg (by omega)])); exact By3_w6.out
      have lty3_W7 : w3.heap.size < W7.heap.size := lt_heap By3_W7.out
      have By4_W7 : Hid (W7.heap[w4.heap.size]? = some (.cells #[.slice sA4 d.sectors.length sc4, .slice pA4 0 pc4, .int .i64 (-1), .bool false] 25 (0, 0))) := by show _ = _; rw [hW7.out]; (repeat (first | simp only [heap_drew] | simp only [World.heap_drewN] | simp only [heap_alloc_if] | simp only [heap_set_if] | simp only [World.size_alloc] | simp only [size_set] | simp only [World.size_drew])); (repeat (first | rw [if_pos trivial] | rw [if_pos (by omega)] | rw [if_neg (by omega)])); exact By4_w6.out
      have lty4_W7 : w4.heap.size < W7.heap.size := lt_heap By4_W7.out
      have inW7 : InW [w4.heap.size, w3.heap.size, w.heap.size] W7 := by intro b hb; simp at hb; omega
      have D0_W7 := Lib.hid ((D0_w6.out).kp kpW7)
      have Y0_W7 := Lib.hid ((Y0_w6.out).kp kpW7)
      have D3_W7 := Lib.hid ((D3_w6.out).kp kpW7)
      have D4_W7 := Lib.hid ((D4_w6.out).kp kpW7)
      have DS_W7 := Lib.hid ((DS_w6.out).kp kpW7)
      clear Bx_w6 By3_w6 By4_w6 ltx_w6 lty3_w6 lty4_w6 D0_w6 Y0_w6 D3_w6 D4_w6 DS_w6 e0 e1 e2 e3 ef0 ef1 ef2 ef3
      have C7 := Lib.hid (write_l [w4.heap.size, w3.heap.size, w.heap.size] W7 inW7 _ _ DS_W7.out x b _ Y0_W7.out)
      rw [wr340] at C7
      refine C7.out.mono ?_
      rintro e w7 ⟨v7, rfl, hD7, hb7⟩
      obtain ⟨sA7, sc7, pA7, pc7, rfl, -⟩ := hD7.parts
      have Bx_w7 := Lib.hid ((hb7.block (w.heap.size) (by omega)).trans Bx_W7.out)
      have ltx_w7 : w.heap.size < w7.heap.size := lt_heap Bx_w7.out
      have By3_w7 := Lib.hid ((hb7.block (w3.heap.size) (by omega)).trans By3_W7.out)
      have lty3_w7 : w3.heap.size < w7.heap.size := lt_heap By3_w7.out
      have By4_w7 := Lib.hid ((hb7.block (w4.heap.size) (by omega)).trans By4_W7.out)
      have lty4_w7 : w4.heap.size < w7.heap.size := lt_heap By4_w7.out
      have D0_w7 := Lib.hid (D0_W7.out.below hb7)
      have Y0_w7 := Lib.hid (Y0_W7.out.below hb7)
      have D3_w7 := Lib.hid (D3_W7.out.below hb7)
      have D4_w7 := Lib.hid (D4_W7.out.below hb7)
      have DS_w7 := Lib.hid (DS_W7.out.below hb7)
      have bww7 := Lib.hid (bwW7.trans (hb7.mono bwW7.size))
      have szw7 : W7.heap.size ≤ w7.heap.size := hb7.size
      clear Bx_W7 By3_W7 By4_W7 ltx_W7 lty3_W7 lty4_W7 D0_W7 Y0_W7 D3_W7 D4_W7 DS_W7
      clear kpW7 bwW7 inW7 hb7
      clear hD7 C7
      obtain ⟨⟨e0, e1, e2, e3⟩, ⟨ef0, ef1, ef2, ef3⟩⟩ := blk4 (Below.refl _ w7) Bx_w7.out (Nat.lt_succ_self _)
      go_wp2_with fail
      refine nameW fun W8 hW8 => ?_
      have kpW8 : Kp [w7.heap.size, w4.heap.size, w3.heap.size, w.heap.size] w7 W8 := by rw [hW8.out]; repeat (first | exact Kp.refl _ _ | refine Kp.alloc ?_ _ | refine Kp.setCell ?_ (by simp) _ _ | refine Kp.drew ?_ | refine Kp.drewN ?_ _)
      have bwW8 : Below w.heap.size w W8 := by rw [hW8.out]; repeat (first | exact bww7.out | refine Below.alloc ?_ (by (repeat (first | simp only [World.size_alloc] | simp only [size_set] | simp only [World.size_drew])); omega) _ | refine Below.setCell ?_ (by first | (dsimp only; omega) | omega) _ | refine Below.drew ?_ | refine below_drewN ?_ _)
      have szW8 : w7.heap.size ≤ W8.heap.size := kpW8.size
      have By7_W8 : Hid (W8.heap[w7.heap.size]? = some (.cells #[.slice sA7 zeroD.sectors.length sc7, .slice pA7 zeroD.pending.length pc7, .int .i64 zeroD.left, .bool zeroD.stopped] 25 (0, 0))) := by show _ = _; rw [hW8.out]; (repeat (first | simp only [heap_drew] | simp only [World.heap_drewN] | simp only [heap_alloc_if] | simp only [heap_set_if] | simp only [World.size_alloc] | simp only [size_set] | simp only [World.size_drew])); (repeat (first | rw [if_pos trivial] | rw [if_pos (by omega)] | rw [if_neg (by omega)]))
      have lty7_W8 : w7.heap.size < W8.heap.size := lt_heap By7_W8.out
      have mky7 : w7.heap.size < W8.heap.size := lty7_W8
      have Bx_W8 : Hid (W8.heap[w.heap.size]? = some (.cells #[.slice sA0 d.sectors.length sc0, .slice pA0 d.pending.length pc0, .int .i64 d.left, .bool true] 25 (0, 0))) := by show _ = _; rw [hW8.out]; (repeat (first | simp only [heap_drew] | simp only [World.heap_drewN] | simp only [heap_alloc_if] | simp only [heap_set_if] | simp only [World.size_alloc] | simp only [size_set] | simp only [World.size_drew])); (repeat (first | rw [if_pos trivial] | rw [if_pos (by omega)] | rw [if_neg (by omega)])); exact Bx_w7.out
      have ltx_W8 : w.heap.size < W8.heap.size := lt_heap Bx_W8.out
      have By3_W8 : Hid (W8.heap[w3.heap.size]? = some (.cells #[.slice sA3 d.sectors.length sc3, .slice pA3 0 pc3, .int .i64 (-1), .bool false] 25 (0, 0))) := by show _ = _; rw [hW8.out]; (repeat (first | simp only [heap_drew] | simp only [World.heap_drewN] | simp only [heap_alloc_if] | simp only [heap_set_if] | simp only [World.size_alloc] | simp only [size_set] | simp only [World.size_drew])); (repeat (first | rw [if_pos trivial] | rw [if_pos (by omega)] | rw [if_neg (by omega)])); exact By3_w7.out
      have lty3_W8 : w3.heap.size < W8.heap.size := lt_heap By3_W8.out
      have By4_W8 : Hid (W8.heap[w4.heap.size]? = some (.cells #[.slice sA4 d.sectors.length sc4, .slice pA4 0 pc4, .int .i64 (-1), .bool false] 25 (0, 0))) := by show _ = _; rw [hW8.out]; (repeat (first | simp only [heap_drew] | simp only [World.heap_drewN] | simp only [heap_alloc_if] | simp only [heap_set_if] | simp only [World.size_alloc] | simp only [size_set] | simp only [World.size_drew])); (repeat (first | rw [if_pos trivial] | rw [if_pos (by omega)] | rw [if_neg (by omega)])); exact By4_w7.out
      have lty4_W8 : w4.heap.size < W8.heap.size := lt_heap By4_W8.out
      have inW8 : InW [w7.heap.size, w4.heap.size, w3.heap.size, w.heap.size] W8 := by intro b hb; simp at hb; omega
      have D0_W8 := Lib.hid (((D0_w7.out).box (by omega)).kp kpW8)
      have Y0_W8 := Lib.hid (((Y0_w7.out).box (by omega)).kp kpW8)
      have D3_W8 := Lib.hid (((D3_w7.out).box (by omega)).kp kpW8)
      have D4_W8 := Lib.hid (((D4_w7.out).box (by omega)).kp kpW8)
      have DS_W8 := Lib.hid (((DS_w7.out).box (by omega)).kp kpW8)
      clear Bx_w7 By3_w7 By4_w7 ltx_w7 lty3_w7 lty4_w7 D0_w7 Y0_w7 D3_w7 D4_w7 DS_w7 e0 e1 e2 e3 ef0 ef1 ef2 ef3
      have C8 := Lib.hid (sync_l [w7.heap.size, w4.heap.size, w3.heap.size, w.heap.size] W8 inW8 _ _ DS_W8.out)
      rw [sy340] at C8
      refine C8.out.mono ?_
      rintro e w8 ⟨v8, rfl, hD8, hb8⟩
      obtain ⟨sA8, sc8, pA8, pc8, rfl, -⟩ := hD8.parts
      have Bx_w8 := Lib.hid ((hb8.block (w.heap.size) (by omega)).trans Bx_W8.out)
      have ltx_w8 : w.heap.size < w8.heap.size := lt_heap Bx_w8.out
      have By3_w8 := Lib.hid ((hb8.block (w3.heap.size) (by omega)).trans By3_W8.out)
      have lty3_w8 : w3.heap.size < w8.heap.size := lt_heap By3_w8.out
      have By4_w8 := Lib.hid ((hb8.block (w4.heap.size) (by omega)).trans By4_W8.out)
      have lty4_w8 : w4.heap.size < w8.heap.size := lt_heap By4_w8.out
      have By7_w8 := Lib.hid ((hb8.block (w7.heap.size) (by omega)).trans By7_W8.out)
      have lty7_w8 : w7.heap.size < w8.heap.size := lt_heap By7_w8.out
      have D0_w8 := Lib.hid (D0_W8.out.below hb8)
      have Y0_w8 := Lib.hid (Y0_W8.out.below hb8)
      have D3_w8 := Lib.hid (D3_W8.out.below hb8)
      have D4_w8 := Lib.hid (D4_W8.out.below hb8)
      have DS_w8 := Lib.hid (DS_W8.out.below hb8)
      have bww8 := Lib.hid (bwW8.trans (hb8.mono bwW8.size))
      have szw8 : W8.heap.size ≤ w8.heap.size := hb8.size
      clear Bx_W8 By3_W8 By4_W8 By7_W8 ltx_W8 lty3_W8 lty4_W8 lty7_W8 D0_W8 Y0_W8 D3_W8 D4_W8 DS_W8
      clear kpW8 bwW8 inW8 hb8
      clear hD8 C8
      obtain ⟨⟨e0, e1, e2, e3⟩, ⟨ef0, ef1, ef2, ef3⟩⟩ := blk4 (Below.refl _ w8) Bx_w8.out (Nat.lt_succ_self _)
      go_wp2_with fail
      refine nameW fun W9 hW9 => ?_
      have kpW9 : Kp [w8.heap.size, w7.heap.size, w4.heap.size, w3.heap.size, w.heap.size] w8 W9 := by rw [hW9.out]; repeat (first | exact Kp.refl _ _ | refine Kp.alloc ?_ _ | refine Kp.setCell ?_ (by simp) _ _ | refine Kp.drew ?_ | refine Kp.drewN ?_ _)
      have bwW9 : Below w.heap.size w W9 := by rw [hW9.out]; repeat (first | exact bww8.out | refine Below.alloc ?_ (by (repeat (first | simp only [World.size_alloc] | simp only [size_set] | simp only [World.size_drew])); omega) _ | refine Below.setCell ?_ (by first | (dsimp only; omega) | omega) _ | refine Below.drew ?_ | refine below_drewN ?_ _)
      have szW9 : w8.heap.size ≤ W9.heap.size := kpW9.size
      have By8_W9 : Hid (W9.heap[w8.heap.size]? = some (.cells #[.slice sA8 zeroD.sectors.length sc8, .slice pA8 zeroD.pending.length pc8, .int .i64 zeroD.left, .bool zeroD.stopped] 25 (0, 0))) := by show _ = _; rw [hW9.out]; (repeat (first | simp only [heap_drew] | simp only [World.heap_drewN] | simp only [heap_alloc_if] | simp only [heap_set_if] | simp only [World.size_alloc] | simp only [size_set] | simp only [World.size_drew])); (repeat (first | rw [if_pos trivial] | rw [if_pos (by omega)] | rw [if_neg (by omega)]))
      have lty8_W9 : w8.heap.size < W9.heap.size := lt_heap By8_W9.out
      have mky8 : w8.heap.size < W9.heap.size := lty8_W9
      have Bx_W9 : Hid (W9.heap[w.heap.size]? = some (.cells #[.slice sA0 d.sectors.length sc0, .slice pA0 d.pending.length pc0, .int .i64 d.left, .bool true] 25 (0, 0))) := by show _ = _; rw [hW9.out]; (repeat (first | simp only [heap_drew] | simp only [World.heap_drewN] | simp only [heap_alloc_if] | simp only [heap_set_if] | simp only [World.size_alloc] | simp only [size_set] | simp only [World.size_drew])); (repeat (first | rw [if_pos trivial] | rw [if_pos (by omega)] | rw [if_neg (by omega)])); exact Bx_w8.out
      have ltx_W9 : w.heap.size < W9.heap.size := lt_heap Bx_W9.out
      have By3_W9 : Hid (W9.heap[w3.heap.size]? = some (.cells #[.slice sA3 d.sectors.length sc3, .slice pA3 0 pc3, .int .i64 (-1), .bool false] 25 (0, 0))) := by show _ = _; rw [hW9.out]; (repeat (first | simp only [heap_drew] | simp only [World.heap_drewN] | simp only [heap_alloc_if] | simp only [heap_set_if] | simp only [World.size_alloc] | simp only [size_set] | simp only [World.size_drew])); (repeat (first | rw [if_pos trivial] | rw [if_pos (by omega)] | rw [if_neg (by omega)])); exact By3_w8.out
      have lty3_W9 : w3.heap.size < W9.heap.size := lt_heap By3_W9.out
      have By4_W9 : Hid (W9.heap[w4.heap.size]? = some (.cells #[.slice sA4 d.sectors.length sc4, .slice pA4 0 pc4, .int .i64 (-1), .bool false] 25 (0, 0))) := by show _ = _; rw [hW9.out]; (repeat (first | simp only [heap_drew] | simp only [World.heap_drewN] | simp only [heap_alloc_if] | simp only [heap_set_if] | simp only [World.size_alloc] | simp only [size_set] | simp only [World.size_drew])); (repeat (first | rw [if_pos trivial] | rw [if_pos (by omega)] | rw [if_neg (by omega)])); exact By4_w8.out
      have lty4_W9 : w4.heap.size < W9.heap.size := lt_heap By4_W9.out
      have By7_W9 : Hid (W9.heap[w7.heap.size]? = some (.cells #[.slice sA7 zeroD.sectors.length sc7, .slice pA7 zeroD.pending.length pc7, .int .i64 zeroD.left, .bool zeroD.stopped] 25 (0, 0))) := by show _ = _; rw [hW9.out]; (repeat (first | simp only [heap_drew] | simp only [World.heap_drewN] | simp only [heap_alloc_if] | simp only [heap_set_if] | simp only [World.size_alloc] | simp only [size_set] | simp only [World.size_drew])); (repeat (first | rw [if_pos trivial] | rw [if_pos (by omega)] | rw [if_neg (by omega)])); exact By7_w8.out
      have lty7_W9 : w7.heap.size < W9.heap.size := lt_heap By7_W9.out
      have inW9 : InW [w8.heap.size, w7.heap.size, w4.heap.size, w3.heap.size, w.heap.size] W9 := by intro b hb; simp at hb; omega
      have D0_W9 := Lib.hid (((D0_w8.out).box (by omega)).kp kpW9)
      have Y0_W9 := Lib.hid (((Y0_w8.out).box (by omega)).kp kpW9)
      have D3_W9 := Lib.hid (((D3_w8.out).box (by omega)).kp kpW9)
      have D4_W9 := Lib.hid (((D4_w8.out).box (by omega)).kp kpW9)
      have DS_W9 := Lib.hid (((DS_w8.out).box (by omega)).kp kpW9)
      clear Bx_w8 By3_w8 By4_w8 By7_w8 ltx_w8 lty3_w8 lty4_w8 lty7_w8 D0_w8 Y0_w8 D3_w8 D4_w8 DS_w8 e0 e1 e2 e3 ef0 ef1 ef2 ef3
      have C9 := Lib.hid (stop_l [w8.heap.size, w7.heap.size, w4.heap.size, w3.heap.size, w.heap.size] W9 _ _ DS_W9.out y)
      rw [st340] at C9
      refine C9.out.mono ?_
      rintro e w9 ⟨v9, rfl, hD9, hb9⟩
      obtain ⟨sA9, sc9, pA9, pc9, rfl, -⟩ := hD9.parts
      have Bx_w9 := Lib.hid ((hb9.block (w.heap.size) (by omega)).trans Bx_W9.out)
      have ltx_w9 : w.heap.size < w9.heap.size := lt_heap Bx_w9.out
      have By3_w9 := Lib.hid ((hb9.block (w3.heap.size) (by omega)).trans By3_W9.out)
      have lty3_w9 : w3.heap.size < w9.heap.size := lt_heap By3_w9.out
      have By4_w9 := Lib.hid ((hb9.block (w4.heap.size) (by omega)).trans By4_W9.out)
      have lty4_w9 : w4.heap.size < w9.heap.size := lt_heap By4_w9.out
      have By7_w9 := Lib.hid ((hb9.block (w7.heap.size) (by omega)).trans By7_W9.out)
      have lty7_w9 : w7.heap.size < w9.heap.size := lt_heap By7_w9.out
      have By8_w9 := Lib.hid ((hb9.block (w8.heap.size) (by omega)).trans By8_W9.out)
      have lty8_w9 : w8.heap.size < w9.heap.size := lt_heap By8_w9.out
      have D0_w9 := Lib.hid (D0_W9.out.below hb9)
      have Y0_w9 := Lib.hid (Y0_W9.out.below hb9)
      have D3_w9 := Lib.hid (D3_W9.out.below hb9)
      have D4_w9 := Lib.hid (D4_W9.out.below hb9)
      have DS_w9 := Lib.hid (DS_W9.out.below hb9)
      have bww9 := Lib.hid (bwW9.trans (hb9.mono bwW9.size))
      have szw9 : W9.heap.size ≤ w9.heap.size := hb9.size
      clear Bx_W9 By3_W9 By4_W9 By7_W9 By8_W9 ltx_W9 lty3_W9 lty4_W9 lty7_W9 lty8_W9 D0_W9 Y0_W9 D3_W9 D4_W9 DS_W9
      clear kpW9 bwW9 inW9 hb9
      clear hD9 C9
      go_wp2_with fail
      go_ret
      exact ⟨rfl, bww9.out.alloc (by have := bww9.out.size; omega) _⟩
end Go.Proofs.Ytjmafnkknohinaa
