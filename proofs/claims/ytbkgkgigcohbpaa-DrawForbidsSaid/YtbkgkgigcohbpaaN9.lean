/- For every draw and pair the law DrawForbids of the given program returns true. -/
import Derived.Test.YtbkgkgigcohbpaaN4
import Derived.Test.YtbkgkgigcohbpaaN2
import Derived.Deep.RegionHeld3
import Derived.Deep.DeepCutAuto
namespace Go.Proofs.Ytbkgkgigcohbpaa
open Go.RowKit
def EmptyIn (W : World) (b : Nat) : Prop := W.heap[b]? = some (.cells #[] 47 (0, 0))
def EdgeIn (W : World) (b : Nat) (fx fy : Int) : Prop := W.heap[b]? = some (.cells #[.int .i64 fx, .int .i64 fy] 47 (0, 0))
theorem EmptyIn.new {W : World} {b : Nat} (h : b = W.heap.size) : EmptyIn (W.alloc (.cells #[] 47)) b := by unfold EmptyIn; rw [heap_alloc_if, if_pos h]
theorem EmptyIn.alloc {W : World} {b : Nat} (h : EmptyIn W b) (o : Obj) : EmptyIn (W.alloc o) b := (Below.heap_alloc _ _ _ (lt_heap h)).trans h
theorem EmptyIn.drew {W : World} {b : Nat} (h : EmptyIn W b) : EmptyIn W.drew b := h
theorem EdgeIn.new {W : World} {b : Nat} {fx fy : Int} (h : b = W.heap.size) : EdgeIn (W.alloc (.cells #[.int .i64 fx, .int .i64 fy] 47)) b fx fy := by unfold EdgeIn; rw [heap_alloc_if, if_pos h]
theorem EdgeIn.alloc {W : World} {b : Nat} {fx fy : Int} (h : EdgeIn W b fx fy) (o : Obj) : EdgeIn (W.alloc o) b fx fy := (Below.heap_alloc _ _ _ (lt_heap h)).trans h
theorem EdgeIn.drew {W : World} {b : Nat} {fx fy : Int} (h : EdgeIn W b fx fy) : EdgeIn W.drew b fx fy := h
theorem EdgeIn.edges {W : World} {b : Nat} {fx fy : Int} (h : EdgeIn W b fx fy) : IsEdges W (fun _ => True) (.slice (some ⟨b, 0, none⟩) 1 1) [(fx, fy)] := by
  refine ⟨_, _, rfl, Nat.le_refl _, (by decide), fun _ => ⟨b, 0, rfl, trivial, fun i j hi hj => ?_⟩⟩
  obtain rfl : i = 0 := by simpa using hi
  refine cell_of h ?_
  match j, hj with
  | 0, _ => rfl
  | 1, _ => rfl
section
variable {ops : Array Oper} {o : Oper} {a : Act} {W : World} {K : Act → World → Prop} {Q : Exit → Act → World → Prop} {E : Prop}
theorem r9A {W0 : World} {b0 : Nat} {M : Nat → Prop} {vm : Value} {m : List (Int × Int)} (fx fy : Int) (h0 : EmptyIn W b0) (hbe : Below W0.heap.size W0 W) (hb : W0.heap.size ≤ b0) (hm : IsEdges W0 M vm m) (hlen : m.length ≤ 900) (hgd : o.guard = none) (s x : Operand)
    (ho : o.op = .call { callee := .builtin .append, args := #[s, x], argTypes := #[23, 23] }) (hs : a.eval s = .slice (some ⟨b0, 0, none⟩) 0 0) (hx : a.eval x = vm)
    (hK : ∀ A c w', Hid (w'.ownsRow W0.heap.size 47 2 (.slice A m.length c) m.length (rowE m) ∧ Below W0.heap.size W0 w') → (∀ b, EdgeIn W b fx fy → EdgeIn w' b fx fy) → K (a.put o.dst (.slice A m.length c)) w') :
    if Region.wanted o (yielded ops a.tmps) = true then Oper.wp Try.prog o a W K Q else E := by
  refine step_edges W0.heap.size [] m (own_empty h0 hb) (hm.below hbe) (by simpa using (show m.length ≤ 1000 by omega)) hbe.size hgd s x ho hs hx ?_
  intro A c w' H
  have H' := H.out
  rw [List.nil_append] at H'
  refine hK A c w' ⟨H'.1, hbe.trans (H'.2.2.mono (Nat.le_refl _))⟩ fun b hE => ?_
  refine (H'.2.1.block b (lt_heap hE) fun e => ?_).trans hE
  have e' : b = b0 := by simpa [Value.ownBlock] using e
  unfold EdgeIn at hE
  unfold EmptyIn at h0
  rw [e', h0] at hE
  cases hE
theorem r9B {W0 : World} {b : Nat} {v : Value} {m : List (Int × Int)} {fx fy : Int} (hown : W.ownsRow W0.heap.size 47 2 v m.length (rowE m)) (he : EdgeIn W b fx fy) (hbe : Below W0.heap.size W0 W) (hlen : m.length ≤ 900) (hgd : o.guard = none) (s x : Operand)
    (ho : o.op = .call { callee := .builtin .append, args := #[s, x], argTypes := #[23, 23] }) (hs : a.eval s = v) (hx : a.eval x = .slice (some ⟨b, 0, none⟩) 1 1)
    (hK : ∀ A c w', Hid (w'.ownsRow W0.heap.size 47 2 (.slice A (m ++ [(fx, fy)]).length c) (m ++ [(fx, fy)]).length (rowE (m ++ [(fx, fy)])) ∧ Below W0.heap.size W0 w') → K (a.put o.dst (.slice A (m ++ [(fx, fy)]).length c)) w') :
    if Region.wanted o (yielded ops a.tmps) = true then Oper.wp Try.prog o a W K Q else E := by
  refine step_edges W0.heap.size m [(fx, fy)] hown he.edges (by simp; omega) hbe.size hgd s x ho hs hx ?_
  intro A c w' H
  exact hK A c w' ⟨H.out.1, hbe.trans (H.out.2.2.mono (Nat.le_refl _))⟩
end
/-- what region 9 leaves -/
def R9 (w wx : World) (gx gy : Nat) (v1 v2 vx vy : Value) (FL FM : List (Int × Int)) (bd : Array Value) : Prop :=
  wx.heap[w.heap.size]? = some (.cells bd 25 (0, 0)) ∧ wx.heap[gx]? = some (.cells #[v1, v2, vx] 25 (0, 0)) ∧ wx.heap[gy]? = some (.cells #[v1, v2, vy] 25 (0, 0)) ∧
  IsEdges wx (fun _ => True) vx FL ∧ IsEdges wx (fun _ => True) vy FM ∧ Below w.heap.size w wx
theorem IsEdges.in_block {w : World} {M : Nat → Prop} {b o n c : Nat} {l : List (Int × Int)} (h : IsEdges w M (.slice (some ⟨b, o, none⟩) n c) l) : IsEdges w (fun x => x = b) (.slice (some ⟨b, o, none⟩) n c) l := by
  obtain ⟨A', c', e, h1, h2, h3⟩ := h
  cases e
  refine ⟨_, _, rfl, h1, h2, fun hn => ?_⟩
  obtain ⟨b', o', e, -, hc⟩ := h3 hn
  cases e
  exact ⟨_, _, rfl, rfl, hc⟩
theorem fin9 {w W9 wB wx : World} {gx gy bx L cX : Nat} {v1 v2 v0 vy : Value} {FL FM : List (Int × Int)} {bd : Array Value} {M : Nat → Prop} (hw : wx = wB.setCell ⟨gy, 2, none⟩ vy) (hb : Below W9.heap.size W9 wB)
    (h1 : W9.heap[w.heap.size]? = some (.cells bd 25 (0, 0))) (h2 : W9.heap[gx]? = some (.cells #[v1, v2, .slice (some ⟨bx, 0, none⟩) L cX] 25 (0, 0))) (h3 : W9.heap[gy]? = some (.cells #[v1, v2, v0] 25 (0, 0)))
    (h4 : IsEdges W9 M (.slice (some ⟨bx, 0, none⟩) L cX) FL) (h5 : wB.ownsRow W9.heap.size 47 2 vy FM.length (rowE FM)) (h6 : Below w.heap.size w W9) (n1 : w.heap.size < gy) (n2 : gx ≠ gy) (n3 : bx ≠ gy) : R9 w wx gx gy v1 v2 (.slice (some ⟨bx, 0, none⟩) L cX) vy FL FM bd := by
  have hgy : gy < W9.heap.size := lt_heap h3
  have k3 := (hb.block gy hgy).trans h3
  subst hw
  refine ⟨?_, ?_, ?_, ?_, ?_, ?_⟩
  · rw [heap_set_if, if_neg (by omega)]; exact (hb.block _ (lt_heap h1)).trans h1
  · rw [heap_set_if, if_neg n2]; exact (hb.block _ (lt_heap h2)).trans h2
  · rw [heap_set_if, if_pos rfl, k3]; rfl
  · refine IsSl.mono (IsSl.keep h4.in_block fun p hp hl => ?_) (fun _ _ _ => trivial) (by decide)
    rw [← hb.cell hl]
    exact World.cell?_of_block (w := wB) (Below.heap_setCell _ _ _ _ (by rw [hp]; exact n3))
  · exact IsSl.mono (IsEdges.ofOwn (TabW.own_set_b h5 (fun e => by have := h5.lt gy e; omega) _ _)) (fun _ _ _ => trivial) (by decide)
  · exact (h6.trans (hb.mono h6.size)).setCell (by exact Nat.le_of_lt n1) _
theorem R9.below {w wx w' : World} {gx gy : Nat} {v1 v2 vx vy : Value} {FL FM : List (Int × Int)} {bd : Array Value} (h : R9 w wx gx gy v1 v2 vx vy FL FM bd) (hb : Below wx.heap.size wx w') : R9 w w' gx gy v1 v2 vx vy FL FM bd :=
  ⟨(hb.block _ (lt_heap h.1)).trans h.1, (hb.block _ (lt_heap h.2.1)).trans h.2.1, (hb.block _ (lt_heap h.2.2.1)).trans h.2.2.1, IsSl.below h.2.2.2.1 hb, IsSl.below h.2.2.2.2.1 hb, h.2.2.2.2.2.trans (hb.mono h.2.2.2.2.2.size)⟩
theorem cell_off {W : World} {b g o j : Nat} {u : Value} (h : b ≠ g) : (W.setCell ⟨g, j, none⟩ u).cell? ⟨b, o, none⟩ = W.cell? ⟨b, o, none⟩ := World.cell?_of_block (w := W) (Below.heap_setCell _ _ _ _ h)
set_option maxHeartbeats 4000000 in
set_option maxRecDepth 8000 in
theorem law7 (w : World) (M : Nat → Prop) (v : Value) (d : DrawD) (h : IsDraw w M v d) (x y : Int) :
    Calls Try.prog 7 #[v, .int .i64 x, .int .i64 y] w fun e w' => e = .returned (.bool true) ∧ Below w.heap.size w w' := by
  have HD := Lib.hid h
  obtain ⟨v1, v2, v3, rfl, -, -, -⟩ := h
  go_enter Try.func7, Try.ntmps7
  go_wp2_with fail
  refine nameW fun W1 hW1 => ?_
  have hB1 : Below w.heap.size w W1 := by rw [hW1.out]; exact (Below.refl w.heap.size w).alloc (Nat.le_refl _) _
  have hb1 : W1.heap[w.heap.size]? = some (.cells #[v1, v2, v3] 25 (0, 0)) := by rw [hW1.out, heap_alloc_if, if_pos rfl]
  refine (sane_any W1).mono ?_
  rintro e W2 ⟨rfl, hB2⟩
  have hb2 := (hB2.block w.heap.size (lt_heap hb1)).trans hb1
  have HB2 := Lib.hid (hB1.trans (hB2.mono hB1.size))
  have HX2 := Lib.hid hb2
  have c0 := cell_of (j := 0) hb2 rfl
  have c1 := cell_of (j := 1) hb2 rfl
  have c2 := cell_of (j := 2) hb2 rfl
  clear hB1 hb1 hB2 hb2 hW1
  have CL := Lib.hid (large_any W2 M _ d (HD.out.below HB2.out))
  cases hL : largeD d
  · rw [hL] at CL
    go_wp2_with fail
    refine CL.out.mono ?_
    rintro e W3 ⟨rfl, hB3⟩
    have hb3 := (hB3.block w.heap.size (lt_heap HX2.out)).trans HX2.out
    have HB3 := Lib.hid (HB2.out.trans (hB3.mono HB2.out.size))
    have HX3 := Lib.hid hb3
    clear c0 c1 c2 CL HB2 HX2 hB3
    have c0 := cell_of (j := 0) hb3 rfl
    have c1 := cell_of (j := 1) hb3 rfl
    have c2 := cell_of (j := 2) hb3 rfl
    clear hb3
    have CK := Lib.hid (refCheck_any W3 M _ d (HD.out.below HB3.out))
    cases hc : checkB d
    · rw [checkD_no hc] at CK
      go_wp2_with fail
      refine CK.out.mono ?_
      rintro e W4 ⟨rfl, hB4⟩
      go_wp2_with fail
      go_ret
      exact ⟨rfl, HB3.out.trans (hB4.mono HB3.out.size)⟩
    · rw [checkD_yes hc] at CK
      have HC := Lib.hid hc
      clear hc
      go_wp2_with fail
      refine CK.out.mono ?_
      rintro e W4 ⟨rfl, hB4⟩
      have hb4 := (hB4.block w.heap.size (lt_heap HX3.out)).trans HX3.out
      have HB4 := Lib.hid (HB3.out.trans (hB4.mono HB3.out.size))
      have HX4 := Lib.hid hb4
      clear c0 c1 c2 CK HB3 HX3 hB4
      have c0 := cell_of (j := 0) hb4 rfl
      have c1 := cell_of (j := 1) hb4 rfl
      have c2 := cell_of (j := 2) hb4 rfl
      clear hb4
      obtain ⟨_, _, _, e0, p1, p2, p3⟩ := id HD.out
      cases e0
      have Q1 := Lib.hid p1
      have Q2 := Lib.hid p2
      have P1 := Lib.hid (IsSl.below p1 HB4.out)
      have P2 := Lib.hid (IsSl.below p2 HB4.out)
      have P3 := Lib.hid (IsSl.below p3 HB4.out)
      obtain ⟨A1, q1, rfl, -⟩ := p1
      obtain ⟨A2, q2, rfl, -⟩ := p2
      obtain ⟨A3, q3, rfl, -⟩ := p3
      have hf80 := largeD_len hL
      obtain ⟨n, hn⟩ : ∃ n, n = nD d := ⟨_, rfl⟩
      have hn1 : d.first.length = n := hn.symm
      have hn2 : d.second.length = n := by rw [hn]; exact (checkB_len HC.out).2.2.1.symm
      have hn16 : n ≤ 16 := hn ▸ (checkB_len HC.out).2.1
      have hn0 : 1 ≤ n := hn ▸ (checkB_len HC.out).1
      rw [hn1, hn2] at c0 c1 HX4 HD
      rw [hn1, hn2]
      have HN := Lib.hid hn
      have HN2 := Lib.hid (And.intro hn1 hn2)
      clear hn hn1 hn2
      obtain ⟨X, hX1, hX2⟩ := and_1023 x
      obtain ⟨Y, hY1, hY2⟩ := and_1023 y
      have hnz : ¬ (n : Int) = 0 := by omega
      have hnz2 : ((n : Int) == 0) = false := by rw [beq_eq_false_iff_ne]; omega
      have hX0 : (0 : Int) ≤ (X : Int) := by omega
      have hY0 : (0 : Int) ≤ (Y : Int) := by omega
      obtain ⟨I, hI⟩ : ∃ I, I = X % n := ⟨_, rfl⟩
      obtain ⟨J, hJ⟩ : ∃ J, J = Y % n := ⟨_, rfl⟩
      have hxi : (X : Int) % (n : Int) = (I : Int) := by rw [hI, Int.natCast_emod]
      have hyj : (Y : Int) % (n : Int) = (J : Int) := by rw [hJ, Int.natCast_emod]
      have hIn : I < n := hI ▸ Nat.mod_lt _ (by omega)
      have hJn : J < n := hJ ▸ Nat.mod_lt _ (by omega)
      clear hI hJ
      go_wp2_with fail
      go_quiet (fail)
      simp only [hxi, hyj]
      have hB5 := below_drewN (Below.refl W4.heap.size W4) nq
      generalize W4.drewN nq = W5 at hB5 ⊢
      have hb5 := (hB5.block w.heap.size (lt_heap HX4.out)).trans HX4.out
      have HB5 := Lib.hid (HB4.out.trans (hB5.mono HB4.out.size))
      have HX5 := Lib.hid hb5
      replace P1 := Lib.hid (IsSl.below P1.out hB5)
      replace P2 := Lib.hid (IsSl.below P2.out hB5)
      replace P3 := Lib.hid (IsSl.below P3.out hB5)
      clear c0 c1 c2 hxi hyj hX1 hX2 hY1 hY2 hX0 hY0 hnz hnz2 HB4 HX4 hB5
      have c0 := cell_of (j := 0) hb5 rfl
      have c1 := cell_of (j := 1) hb5 rfl
      have c2 := cell_of (j := 2) hb5 rfl
      clear hb5
      go_upto_region 7 with fail
      refine nameC fun W6 hW6 => ?_
      have hB6 : Below W5.heap.size W5 W6 := by rw [hW6.out]; exact (Below.refl _ _).alloc (Nat.le_refl _) _
      have hbx : W6.heap[W5.heap.size]? = some (.cells #[.slice A1 n q1, .slice A2 n q2, .slice A3 d.forb.length q3] 25 (0, 0)) := by rw [hW6.out, heap_alloc_if, if_pos rfl]
      have hb6 := (hB6.block w.heap.size (lt_heap HX5.out)).trans HX5.out
      have HB6 := Lib.hid (HB5.out.trans (hB6.mono HB5.out.size))
      have HX6 := Lib.hid hb6
      have HGX := Lib.hid hbx
      replace P1 := Lib.hid (IsSl.below P1.out hB6)
      replace P2 := Lib.hid (IsSl.below P2.out hB6)
      replace P3 := Lib.hid (IsSl.below P3.out hB6)
      have hwg : w.heap.size < W5.heap.size := lt_heap HX5.out
      obtain ⟨gx, hgx⟩ : ∃ gx, gx = W5.heap.size := ⟨_, rfl⟩
      rw [← hgx] at hwg HGX ⊢
      have hgs : gx < W6.heap.size := lt_heap HGX.out
      clear c0 c1 c2 hW6 hbx hB6 HB5 HX5 hgx
      have c0 := cell_of (j := 0) hb6 rfl
      have c1 := cell_of (j := 1) hb6 rfl
      have c2 : W6.cell? ⟨w.heap.size, 2, none⟩ = some (.slice A3 d.forb.length q3) := cell_of (j := 2) hb6 rfl
      have c2a : ∀ o, (W6.alloc o).cell? ⟨w.heap.size, 2, none⟩ = some (.slice A3 d.forb.length q3) := fun o => cell_of (j := 2) ((Below.heap_alloc _ _ _ (lt_heap hb6)).trans hb6) rfl
      clear hb6
      have hp1 : IsInts w M (.slice A1 n q1) d.first := HN2.out.1 ▸ Q1.out
      have hp2 : IsInts w M (.slice A2 n q2) d.second := HN2.out.2 ▸ Q2.out
      obtain ⟨b1, o1, rfl, hl1, f1⟩ := hp1.at_ HB6.out (show I < d.first.length by rw [HN2.out.1]; exact hIn)
      obtain ⟨b2, o2, rfl, hl2, f2⟩ := hp2.at_ HB6.out (show J < d.second.length by rw [HN2.out.2]; exact hJn)
      obtain ⟨m, hm1, hm2, hm3⟩ := forbids HC.out hf80 (r := I) (c := J) (HN.out ▸ hIn) (HN.out ▸ hJn)
      obtain ⟨fx, hfx⟩ : ∃ fx, fx = nthI d.first I := ⟨_, rfl⟩
      obtain ⟨fy, hfy⟩ : ∃ fy, fy = nthI d.second J := ⟨_, rfl⟩
      rw [← hfx, ← hfy] at hm1 hm2
      rw [← hfx] at f1
      rw [← hfy] at f2
      have HM := Lib.hid (And.intro hm1 (And.intro hm2 hm3))
      have hII : (I : Int) < (n : Int) := by omega
      have hI0 : (0 : Int) ≤ (I : Int) := by omega
      have hJJ : (J : Int) < (n : Int) := by omega
      have hJ0 : (0 : Int) ≤ (J : Int) := by omega
      clear hp1 hp2 hm1 hm2 hm3 hfx hfy
      have hlw : w.heap.size < W6.heap.size := lt_heap HX6.out
      replace c0 : W6.cell? ⟨w.heap.size, 0, none⟩ = some (.slice (some ⟨b1, o1, none⟩) n q1) := c0
      replace c1 : W6.cell? ⟨w.heap.size, 1, none⟩ = some (.slice (some ⟨b2, o2, none⟩) n q2) := c1
      have hw1 : w.heap.size ≠ gx := by omega
      have hw2 : b1 ≠ gx := by omega
      have hw3 : b2 ≠ gx := by omega
      have hl3 : b1 < W6.heap.size := by omega
      have hl4 : b2 < W6.heap.size := by omega
      go_region_held3 (fun w' => w'.cell? ⟨w.heap.size, 0, none⟩ = some (.slice (some ⟨b1, o1, none⟩) n q1) ∧ w'.cell? ⟨w.heap.size, 1, none⟩ = some (.slice (some ⟨b2, o2, none⟩) n q2) ∧ w'.cell? ⟨w.heap.size, 2, none⟩ = some (.slice A3 d.forb.length q3) ∧ w'.cell? ⟨b1, o1 + I, none⟩ = some (.int .i64 fx) ∧ w'.cell? ⟨b2, o2 + J, none⟩ = some (.int .i64 fy)) (first | with_reducible exact ⟨c0, c1, c2, f1, f2⟩ | with_reducible exact ⟨k0, k1, k2, k3, k4⟩ | exact ⟨(cell_off hw1).trans k0, (cell_off hw1).trans k1, (cell_off hw1).trans k2, (cell_off hw2).trans k3, (cell_off hw3).trans k4⟩ | go_keep) (first | (refine step_edges W6.heap.size [(fx, fy)] d.forb (v := .slice (some ⟨W6.heap.size, 0, none⟩) 1 1) (vm := .slice A3 d.forb.length q3) (M := M) ?_ ?_ ?_ ?_ rfl (.tmp 50) (.tmp 52) rfl rfl rfl ?_; (focus (first | exact own_one W6 fx fy (Nat.le_refl _) | exact (own_one W6 fx fy (Nat.le_refl _)).drew)); (focus (first | exact IsSl.below P3.out ((Below.refl _ _).alloc (Nat.le_refl _) _) | exact IsSl.below P3.out ((Below.refl _ _).alloc (Nat.le_refl _) _).drew)); (focus (first | omega | (simp; done) | (simp; omega))); (focus (first | omega | (simp; done) | (simp; omega))); intro AX cX W7 H7; have hg7 : W7.heap[gx]? = some (.cells #[.slice (some ⟨b1, o1, none⟩) n q1, .slice (some ⟨b2, o2, none⟩) n q2, .slice A3 d.forb.length q3] 25 (0, 0)) := (H7.out.2.2.block gx hgs).trans ((Below.heap_alloc _ _ _ hgs).trans HGX.out); have g2 := cell_of (j := 2) hg7 rfl; have gf := frz_of (j := 2) hg7; have HG7 := Lib.hid hg7; have HB7 : Hid (Below W6.heap.size W6 W7) := ((Below.refl W6.heap.size W6).alloc (Nat.le_refl _) (.cells #[.int .i64 fx, .int .i64 fy] 47)).drew.trans H7.out.2.2; have k0 := (HB7.out.cell (p := ⟨w.heap.size, 0, none⟩) hlw).trans c0; have k1 := (HB7.out.cell (p := ⟨w.heap.size, 1, none⟩) hlw).trans c1; have k2 := (HB7.out.cell (p := ⟨w.heap.size, 2, none⟩) hlw).trans c2; have k3 := (HB7.out.cell (p := ⟨b1, o1 + I, none⟩) hl3).trans f1; have k4 := (HB7.out.cell (p := ⟨b2, o2 + J, none⟩) hl4).trans f2; clear hg7))
      go_upto_region 8 with fail
      refine nameC fun W8 hW8 => ?_
      have hgb : gx ≠ (W6.heap.size : Nat) := by omega
      have hB8 : Below w.heap.size w W8 := by
        rw [hW8.out]
        exact (HB6.out.trans (HB7.out.mono HB6.out.size)).setCell (by exact Nat.le_of_lt hwg) _
      have hb8 : W8.heap[w.heap.size]? = some (.cells #[.slice (some ⟨b1, o1, none⟩) n q1, .slice (some ⟨b2, o2, none⟩) n q2, .slice A3 d.forb.length q3] 25 (0, 0)) := by
        rw [hW8.out, heap_set_if, if_neg hw1]
        exact (HB7.out.block _ hlw).trans HX6.out
      have hg8 : W8.heap[gx]? = some (.cells #[.slice (some ⟨b1, o1, none⟩) n q1, .slice (some ⟨b2, o2, none⟩) n q2, .slice AX (d.forb.length + 1) cX] 25 (0, 0)) := by
        rw [hW8.out, heap_set_if, if_pos rfl, HG7.out]; rfl
      have ho8 : W8.ownsRow W6.heap.size 47 2 (.slice AX (d.forb.length + 1) cX) (d.forb.length + 1) (rowE ((fx, fy) :: d.forb)) := by
        rw [hW8.out]
        have := H7.out.1
        simp only [List.cons_append, List.nil_append, List.length_cons] at this
        exact TabW.own_set_b this (fun e => by have := this.lt gx e; omega) _ _
      have he8 : IsEdges W8 (fun b => W6.heap.size ≤ b) (.slice AX (d.forb.length + 1) cX) ((fx, fy) :: d.forb) := IsEdges.ofOwn ho8
      obtain ⟨bx, rfl, hbx8⟩ : ∃ bx, AX = some ⟨bx, 0, none⟩ ∧ W6.heap.size ≤ bx := by
        rcases ho8.2 with ⟨e, -⟩ | ⟨b, cap, cur, e, hb, -⟩
        · cases e
        · cases e; exact ⟨b, rfl, hb⟩
      obtain ⟨_, _, e9, -, r0, r1⟩ := he8.at_ (Below.refl _ _) (show 0 < ((fx, fy) :: d.forb).length by simp)
      cases e9
      have r0' : W8.cell? ⟨bx, 0, none⟩ = some (.int .i64 fx) := by simpa using r0
      have r1' : W8.cell? ⟨bx, 1, none⟩ = some (.int .i64 fy) := by simpa using r1
      obtain ⟨FL, hFL⟩ : ∃ FL, FL = (fx, fy) :: d.forb := ⟨_, rfl⟩
      obtain ⟨L, hL2⟩ : ∃ L, L = d.forb.length + 1 := ⟨_, rfl⟩
      have hFLL : FL.length = L := by rw [hFL, hL2]; rfl
      rw [← hFL, ← hL2] at he8
      rw [← hL2] at hg8
      have HB8 := Lib.hid hB8
      have HX8 := Lib.hid hb8
      have HG8 := Lib.hid hg8
      have HE8 := Lib.hid he8
      have HFL := Lib.hid (And.intro hFL hFLL)
      have hL81 : L ≤ 81 := by omega
      rw [← hL2]
      have g0 := cell_of (j := 0) hg8 rfl
      have g1 := cell_of (j := 1) hg8 rfl
      have g2 : W8.cell? ⟨gx, 2, none⟩ = some (.slice (some ⟨bx, 0, none⟩) L cX) := cell_of (j := 2) hg8 rfl
      have hgx8 : gx < W8.heap.size := lt_heap hg8
      have hbx9 : bx < W8.heap.size := lt_of_cell r0'
      clear hW8 hB8 hb8 hg8 ho8 he8 hFL hFLL hL2 r0 r1 c0 c1 c2 c2a f1 f2 H7 HG7 HB7 HX6 HGX k0 k1 k2 k3 k4 HB6 gf
      go_upto_region 9 with fail
      refine nameC fun W9 hW9 => ?_
      have hB9 : Below W8.heap.size W8 W9 := by rw [hW9.out]; exact (Below.refl _ _).alloc (Nat.le_refl _) _
      have hy9 : W9.heap[W8.heap.size]? = some (.cells #[.slice (some ⟨b1, o1, none⟩) n q1, .slice (some ⟨b2, o2, none⟩) n q2, .slice (some ⟨bx, 0, none⟩) L cX] 25 (0, 0)) := by rw [hW9.out, heap_alloc_if, if_pos rfl]
      have hb9 := (hB9.block w.heap.size (lt_heap HX8.out)).trans HX8.out
      have HB9 := Lib.hid (HB8.out.trans (hB9.mono HB8.out.size))
      have HX9 := Lib.hid hb9
      have hg9 := (hB9.block gx hgx8).trans HG8.out
      have HG9 := Lib.hid hg9
      have HE9 := Lib.hid (IsSl.below HE8.out hB9)
      have HE9 : Hid (IsEdges W9 (fun b => W6.heap.size ≤ b) (.slice (some ⟨bx, 0, none⟩) L cX) FL) := HE9
      obtain ⟨gy, hgy⟩ : ∃ gy, gy = W8.heap.size := ⟨_, rfl⟩
      rw [← hgy] at hy9 ⊢
      have HY9 := Lib.hid hy9
      have hgy9 : gy < W9.heap.size := lt_heap hy9
      have hxy : gx ≠ gy := by omega
      have hby : bx ≠ gy := by omega
      have hwy : w.heap.size < gy := by omega
      have s0 := (hB9.cell (p := ⟨bx, 0, none⟩) hbx9).trans r0'
      have s1 := (hB9.cell (p := ⟨bx, 1, none⟩) hbx9).trans r1'
      have s2 := (hB9.cell (p := ⟨gx, 2, none⟩) hgx8).trans g2
      have hgx9 : gx < W9.heap.size := lt_heap hg9
      have hbx10 : bx < W9.heap.size := lt_of_cell s0
      have hL9 : FL.length ≤ 900 := by rw [HFL.out.2]; omega
      have hL0 : (0 : Int) < (L : Int) := by have := HFL.out.2; rw [HFL.out.1] at this; simp at this; omega
      have hL1 : 0 < L := by omega
      clear hW9 hB9 hy9 hb9 hg9 hgy r0' r1' g0 g1 g2 HX8 HG8 HE8 HB8
      go_cut [8] (fun s8 wx => s8 = .pointer (some ⟨gy, 0, none⟩) ∧ ∃ AB cB, Hid (R9 w wx gx gy (.slice (some ⟨b1, o1, none⟩) n q1) (.slice (some ⟨b2, o2, none⟩) n q2) (.slice (some ⟨bx, 0, none⟩) L cX) (.slice AB (FL.length + 1) cB) FL (FL ++ [(fx, fy)]) #[.slice (some ⟨b1, o1, none⟩) n q1, .slice (some ⟨b2, o2, none⟩) n q2, .slice A3 d.forb.length q3]))
      case first =>
        go_region_held3 (fun w' => w'.cell? ⟨gx, 2, none⟩ = some (.slice (some ⟨bx, 0, none⟩) L cX) ∧ w'.cell? ⟨bx, 0, none⟩ = some (.int .i64 fx) ∧ w'.cell? ⟨bx, 1, none⟩ = some (.int .i64 fy)) (first | with_reducible exact ⟨s2, s0, s1⟩ | with_reducible exact ⟨a2, a0, a1⟩ | with_reducible exact ⟨b2', b0', b1'⟩ | exact ⟨(cell_off hxy).trans b2', (cell_off hby).trans b0', (cell_off hby).trans b1'⟩ | go_keep) (first | (refine r9A (W0 := W9) (b0 := W9.heap.size) (vm := .slice (some ⟨bx, 0, none⟩) L cX) (m := FL) fx fy ?_ ?_ (Nat.le_refl _) HE9.out hL9 rfl (.tmp 56) (.tmp 58) rfl rfl rfl ?_; (focus ((repeat (first | (with_reducible refine EmptyIn.drew ?_) | (exact EmptyIn.new (by simp)) | (with_reducible refine EmptyIn.alloc ?_ _))); done)); (focus ((repeat (first | with_reducible exact Below.refl W9.heap.size W9 | (with_reducible refine Below.drew ?_) | (with_reducible refine Below.alloc ?_ (by first | omega | (simp; done) | (simp; omega)) _))); done)); intro AA cA wA HA KA; have a2 := (HA.out.2.cell (p := ⟨gx, 2, none⟩) hgx9).trans s2; have a0 := (HA.out.2.cell (p := ⟨bx, 0, none⟩) hbx10).trans s0; have a1 := (HA.out.2.cell (p := ⟨bx, 1, none⟩) hbx10).trans s1; have hszA := HA.out.2.size) | (refine r9A (W0 := W9) (b0 := W9.heap.size + 1) (vm := .slice (some ⟨bx, 0, none⟩) L cX) (m := FL) fx fy ?_ ?_ (Nat.le_succ _) HE9.out hL9 rfl (.tmp 56) (.tmp 58) rfl rfl rfl ?_; (focus ((repeat (first | (with_reducible refine EmptyIn.drew ?_) | (exact EmptyIn.new (by simp)) | (with_reducible refine EmptyIn.alloc ?_ _))); done)); (focus ((repeat (first | with_reducible exact Below.refl W9.heap.size W9 | (with_reducible refine Below.drew ?_) | (with_reducible refine Below.alloc ?_ (by first | omega | (simp; done) | (simp; omega)) _))); done)); intro AA cA wA HA KA; have a2 := (HA.out.2.cell (p := ⟨gx, 2, none⟩) hgx9).trans s2; have a0 := (HA.out.2.cell (p := ⟨bx, 0, none⟩) hbx10).trans s0; have a1 := (HA.out.2.cell (p := ⟨bx, 1, none⟩) hbx10).trans s1; have hszA := HA.out.2.size) | (refine r9B (W0 := W9) (b := W9.heap.size) (v := .slice AA FL.length cA) (m := FL) (fx := fx) (fy := fy) ?_ ?_ ?_ hL9 rfl (.tmp 59) (.tmp 64) rfl rfl rfl ?_; (focus ((repeat (first | with_reducible exact HA.out.1 | (with_reducible refine World.ownsRow.drew ?_) | (with_reducible refine World.ownsRow.alloc ?_ _))); done)); (focus ((repeat (first | (with_reducible refine EdgeIn.drew ?_) | (exact EdgeIn.new (by simp)) | (with_reducible refine EdgeIn.alloc ?_ _) | (refine KA _ ?_))); done)); (focus ((repeat (first | with_reducible exact HA.out.2 | (with_reducible refine Below.drew ?_) | (with_reducible refine Below.alloc ?_ (by first | omega | (simp; done) | (simp; omega)) _))); done)); intro AB cB wB HBr; have b2' := (HBr.out.2.cell (p := ⟨gx, 2, none⟩) hgx9).trans s2; have b0' := (HBr.out.2.cell (p := ⟨bx, 0, none⟩) hbx10).trans s0; have b1' := (HBr.out.2.cell (p := ⟨bx, 1, none⟩) hbx10).trans s1; have hgyB := (HBr.out.2.block gy hgy9).trans HY9.out; have y2 := cell_of (j := 2) hgyB rfl; have yf := frz_of (j := 2) hgyB; clear hgyB) | (refine r9B (W0 := W9) (b := W9.heap.size + 1) (v := .slice AA FL.length cA) (m := FL) (fx := fx) (fy := fy) ?_ ?_ ?_ hL9 rfl (.tmp 59) (.tmp 64) rfl rfl rfl ?_; (focus ((repeat (first | with_reducible exact HA.out.1 | (with_reducible refine World.ownsRow.drew ?_) | (with_reducible refine World.ownsRow.alloc ?_ _))); done)); (focus ((repeat (first | (with_reducible refine EdgeIn.drew ?_) | (exact EdgeIn.new (by simp)) | (with_reducible refine EdgeIn.alloc ?_ _) | (refine KA _ ?_))); done)); (focus ((repeat (first | with_reducible exact HA.out.2 | (with_reducible refine Below.drew ?_) | (with_reducible refine Below.alloc ?_ (by first | omega | (simp; done) | (simp; omega)) _))); done)); intro AB cB wB HBr; have b2' := (HBr.out.2.cell (p := ⟨gx, 2, none⟩) hgx9).trans s2; have b0' := (HBr.out.2.cell (p := ⟨bx, 0, none⟩) hbx10).trans s0; have b1' := (HBr.out.2.cell (p := ⟨bx, 1, none⟩) hbx10).trans s1; have hgyB := (HBr.out.2.block gy hgy9).trans HY9.out; have y2 := cell_of (j := 2) hgyB rfl; have yf := frz_of (j := 2) hgyB; clear hgyB) | (refine r9B (W0 := W9) (b := wA.heap.size) (v := .slice AA FL.length cA) (m := FL) (fx := fx) (fy := fy) ?_ ?_ ?_ hL9 rfl (.tmp 59) (.tmp 64) rfl rfl rfl ?_; (focus ((repeat (first | with_reducible exact HA.out.1 | (with_reducible refine World.ownsRow.drew ?_) | (with_reducible refine World.ownsRow.alloc ?_ _))); done)); (focus ((repeat (first | (with_reducible refine EdgeIn.drew ?_) | (exact EdgeIn.new (by simp)) | (with_reducible refine EdgeIn.alloc ?_ _) | (refine KA _ ?_))); done)); (focus ((repeat (first | with_reducible exact HA.out.2 | (with_reducible refine Below.drew ?_) | (with_reducible refine Below.alloc ?_ (by first | omega | (simp; done) | (simp; omega)) _))); done)); intro AB cB wB HBr; have b2' := (HBr.out.2.cell (p := ⟨gx, 2, none⟩) hgx9).trans s2; have b0' := (HBr.out.2.cell (p := ⟨bx, 0, none⟩) hbx10).trans s0; have b1' := (HBr.out.2.cell (p := ⟨bx, 1, none⟩) hbx10).trans s1; have hgyB := (HBr.out.2.block gy hgy9).trans HY9.out; have y2 := cell_of (j := 2) hgyB rfl; have yf := frz_of (j := 2) hgyB; clear hgyB))
        all_goals
          go_wp2_with fail
          go_meet
          case rel =>
            have ho := HBr.out.1
            rw [List.length_append] at ho
            exact ⟨rfl, AB, cB, Lib.hid (fin9 rfl HBr.out.2 HX9.out HG9.out HY9.out HE9.out (by rw [List.length_append]; exact ho) HB9.out hwy hxy hby)⟩
      case rest =>
        obtain ⟨rfl, AB, cB, HR9⟩ := hcut
        have hq1 : IsInts w M (.slice (some ⟨b1, o1, none⟩) n q1) d.first := HN2.out.1 ▸ Q1.out
        have hq2 : IsInts w M (.slice (some ⟨b2, o2, none⟩) n q2) d.second := HN2.out.2 ▸ Q2.out
        have HQ1 := Lib.hid hq1
        have HQ2 := Lib.hid hq2
        have hR16 := Rn_le (may := mayD d) (n := nD d) 0 (HN.out ▸ hn16)
        have hsum := HM.out.2.2
        obtain ⟨R, hR⟩ : ∃ R, R = Rn (mayD d) (nD d) 0 := ⟨_, rfl⟩
        obtain ⟨T, hT⟩ : ∃ T, T = Td d I J := ⟨_, rfl⟩
        rw [← hR] at hR16 hsum
        rw [← hT] at hsum
        have hcd : countD d = (R, 0) := by unfold countD; rw [HC.out, hR]; rfl
        have HT := Lib.hid hT
        have hwr : IntKind.u64.wrap ((R : Int) - (m : Int)) = (T : Int) := by rw [IntKind.wrap_u64]; omega
        have HWR := Lib.hid hwr
        have C1 := Lib.hid (count_any wc M _ d (HD.out.below HR9.out.2.2.2.2.2))
        rw [hcd] at C1
        clear s0 s1 s2 hq1 hq2 hR hT hcd hwr hsum P1 P2 P3 HX9 HG9 HY9 HE9 HB9
        have hbox := HR9.out.1
        have c0 := cell_of (j := 0) hbox rfl
        have c1 := cell_of (j := 1) hbox rfl
        have c2 := cell_of (j := 2) hbox rfl
        clear hbox
        go_wp2_with fail
        refine C1.out.mono ?_
        rintro e w1 ⟨rfl, hb1⟩
        replace HR9 := Lib.hid (HR9.out.below hb1)
        have C2 : Hid (Calls Try.prog 11 #[.agg #[.slice (some ⟨b1, o1, none⟩) n q1, .slice (some ⟨b2, o2, none⟩) n q2, .slice (some ⟨bx, 0, none⟩) L cX]] w1 (NumE w1 (m, 0))) := by
          have hd : IsDraw w1 (fun _ => True) (.agg #[.slice (some ⟨b1, o1, none⟩) n q1, .slice (some ⟨b2, o2, none⟩) n q2, .slice (some ⟨bx, 0, none⟩) L cX]) (addF d (fx, fy)) :=
            ⟨_, _, _, rfl, IsSl.mono (IsSl.below HQ1.out HR9.out.2.2.2.2.2) (fun _ _ _ => trivial) (by decide), IsSl.mono (IsSl.below HQ2.out HR9.out.2.2.2.2.2) (fun _ _ _ => trivial) (by decide), by have := HR9.out.2.2.2.1; rw [HFL.out.1] at this; exact this⟩
          have := count_any w1 _ _ _ hd
          rw [HM.out.1] at this
          exact this
        clear C1 c0 c1 c2 hb1
        have hbox := HR9.out.2.1
        have c0 := cell_of (j := 0) hbox rfl
        have c1 := cell_of (j := 1) hbox rfl
        have c2 := cell_of (j := 2) hbox rfl
        clear hbox
        go_wp2_with fail
        refine C2.out.mono ?_
        rintro e w2 ⟨rfl, hb2⟩
        replace HR9 := Lib.hid (HR9.out.below hb2)
        have C3 : Hid (Calls Try.prog 11 #[.agg #[.slice (some ⟨b1, o1, none⟩) n q1, .slice (some ⟨b2, o2, none⟩) n q2, .slice AB (FL.length + 1) cB]] w2 (NumE w2 (m, 0))) := by
          have hd : IsDraw w2 (fun _ => True) (.agg #[.slice (some ⟨b1, o1, none⟩) n q1, .slice (some ⟨b2, o2, none⟩) n q2, .slice AB (FL.length + 1) cB]) (addF2 d (fx, fy)) :=
            ⟨_, _, _, rfl, IsSl.mono (IsSl.below HQ1.out HR9.out.2.2.2.2.2) (fun _ _ _ => trivial) (by decide), IsSl.mono (IsSl.below HQ2.out HR9.out.2.2.2.2.2) (fun _ _ _ => trivial) (by decide), by have := HR9.out.2.2.2.2.1; rw [HFL.out.1] at this ⊢; exact this⟩
          have := count_any w2 _ _ _ hd
          rw [HM.out.2.1] at this
          exact this
        clear C2 c0 c1 c2 hb2
        have hbox := HR9.out.2.2.1
        have c0 := cell_of (j := 0) hbox rfl
        have c1 := cell_of (j := 1) hbox rfl
        have c2 := cell_of (j := 2) hbox rfl
        clear hbox
        go_wp2_with fail
        refine C3.out.mono ?_
        rintro e w3 ⟨rfl, hb3⟩
        replace HR9 := Lib.hid (HR9.out.below hb3)
        have C4 := Lib.hid (chances_any w3 M _ d (HD.out.below HR9.out.2.2.2.2.2))
        rw [chancesD_yes HC.out] at C4
        clear C3 c0 c1 c2 hb3
        have hbox := HR9.out.1
        have c0 := cell_of (j := 0) hbox rfl
        have c1 := cell_of (j := 1) hbox rfl
        have c2 := cell_of (j := 2) hbox rfl
        clear hbox
        go_wp2_with fail
        refine C4.out.mono ?_
        rintro e w4 ⟨v6, rfl, h6, hb4⟩
        have HBF := Lib.hid (HR9.out.2.2.2.2.2.trans (hb4.mono HR9.out.2.2.2.2.2.size))
        obtain ⟨A6, q6, rfl, -⟩ := h6.sl
        have e6 : Value.slice A6 (chanL d).length q6 = Value.slice A6 n q6 := by rw [chanL_len, ← HN.out]
        rw [e6] at h6 ⊢
        obtain ⟨b6, o6, Y1, z1, rfl, u1, R1⟩ := h6.at_ (Below.refl _ _) (show I < (chanL d).length by rw [chanL_len, ← HN.out]; exact hIn)
        have hrl : (nthR (chanL d) I).length = n := by rw [chanL_rowlen (HN.out ▸ hIn), ← HN.out]
        have eY : Value.slice Y1 (nthR (chanL d) I).length z1 = Value.slice Y1 n z1 := by rw [hrl]
        rw [eY] at u1 R1
        obtain ⟨b7, o7, rfl, u2⟩ := IsNs.at_ R1 (Below.refl _ _) (show J < (nthR (chanL d) I).length by rw [hrl]; exact hJn)
        rw [chanL_at (HN.out ▸ hIn) (HN.out ▸ hJn), ← HT.out] at u2
        have hwr := HWR.out
        clear C4 c0 c1 c2 hb4 h6 e6 hrl eY R1
        go_wp2_with fail
        go_ret
        exact ⟨rfl, HBF.out⟩
  · rw [hL] at CL
    go_wp2_with fail
    refine CL.out.mono ?_
    rintro e W3 ⟨rfl, hB3⟩
    go_wp2_with fail
    go_ret
    exact ⟨rfl, HB2.out.trans (hB3.mono HB2.out.size)⟩
end Go.Proofs.Ytbkgkgigcohbpaa
