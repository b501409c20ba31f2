/- The law MatchingCheckSpec. -/
import Derived.Test.YtolappaekjdcgaaF1
import Derived.Test.YtolappaekjdcgaaV6
namespace Go.Proofs.Ytolappaekjdcgaa
open Go.RowKit Sm
set_option maxHeartbeats 4000000 in
set_option maxRecDepth 100000 in
theorem law3 (w : World) (M : Nat → Prop) (v : Value) (g : GrD) (h : IsGraph w M v g) (M' : Nat → Prop) (v' : Value) (m : List Int) (h' : IsInts w M' v' m) :
    Calls Try.prog 3 #[v, v'] w fun e w' => e = .returned (.bool true) ∧ Below w.heap.size w w' := by
  have HM := Lib.hid h'
  have HG := Lib.hid h
  obtain ⟨v2, rfl, -⟩ := h
  obtain ⟨Am, dm, rfl, -, hdm, -⟩ := h'
  obtain ⟨Ae, de, he⟩ : ∃ A c, v2 = .slice A g.edges.length c := by
    obtain ⟨v3, e, A, c, rfl, -⟩ := HG.out
    simp only [Value.agg.injEq, Array.mk.injEq, List.cons.injEq, true_and, and_true] at e
    exact ⟨A, c, e⟩
  subst he
  go_enter Try.func3, Try.ntmps3
  go_wp2_with fail
  refine nameW fun W1 hW1 => ?_
  have hB1 : Below w.heap.size w W1 := by rw [hW1.out]; exact (Below.refl w.heap.size w).alloc (Nat.le_refl _) _
  have hb1 : W1.heap[w.heap.size]? = some (.cells #[.int .i64 g.left, .int .i64 g.right, .slice Ae g.edges.length de] 24 (0, 0)) := by rw [hW1.out, heap_alloc_if, if_pos rfl]
  have HB1 := Lib.hid hB1
  have HX1 := Lib.hid hb1
  have HG1 := Lib.hid (HG.out.below hB1)
  obtain ⟨c0, c1, c2⟩ := graph_box hb1
  clear hW1 hB1 hb1
  refine (sane_any W1).mono ?_
  rintro e w2 ⟨rfl, hb⟩
  have HB2 := Lib.hid (HB1.out.trans (hb.mono HB1.out.size))
  have HG2 := Lib.hid (HG1.out.below hb)
  have HX2 := Lib.hid ((hb.block _ (lt_heap HX1.out)).trans HX1.out)
  clear hb c0 c1 c2 HB1 HG1 HX1
  obtain ⟨c0, c1, c2⟩ := graph_box HX2.out
  by_cases h60 : 60 < g.edges.length
  · have h60i : (60 : Int) < (g.edges.length : Int) := by omega
    go_wp2_with fail
    go_ret
    exact ⟨rfl, HB2.out⟩
  have h60i : ¬ (60 : Int) < (g.edges.length : Int) := by omega
  by_cases hm60 : 60 < m.length
  · have hm60i : (60 : Int) < (m.length : Int) := by omega
    go_wp2_with fail
    go_ret
    exact ⟨rfl, HB2.out⟩
  have hm60i : ¬ (60 : Int) < (m.length : Int) := by omega
  have hbl := lt_heap HX2.out
  replace HM := Lib.hid (IsSl.below HM.out HB2.out)
  have C1 := fun W hb => Lib.hid (mcheck_any W M _ g (HG2.out.below hb))
  have C2 := fun W hb => Lib.hid (refCheck_any W M _ g (HG2.out.below hb))
  have C3 := fun W hb => Lib.hid (valid_any W M _ _ _ g m (HG2.out.below hb) (IsSl.below HM.out hb) (by omega))
  have C4 := fun W hb => Lib.hid (refValid_any W M _ _ _ g m (HG2.out.below hb) (IsSl.below HM.out hb) (by omega))
  obtain ⟨z, hz⟩ : ∃ z, z = chkG g := ⟨_, rfl⟩
  obtain ⟨y, hy⟩ : ∃ z, z = validG g m := ⟨_, rfl⟩
  rw [← hz] at C1 C2
  rw [← hy] at C3 C4
  clear hz hy
  have hzz : (z == z) = true := by simp
  have hyy : (y == y) = true := by simp
  go_wp2_with fail
  go_region_held3 (fun w' => w'.cell? ⟨w.heap.size, 0, none⟩ = some (.int .i64 g.left) ∧ w'.cell? ⟨w.heap.size, 1, none⟩ = some (.int .i64 g.right) ∧ w'.cell? ⟨w.heap.size, 2, none⟩ = some (.slice Ae g.edges.length de)) (first | with_reducible exact ⟨c0, c1, c2⟩ | with_reducible exact ⟨s0, s1, s2⟩ | go_keep) (first | (go_at_call 11; refine (C1 _ (by repeat (first | with_reducible exact Below.refl _ _ | with_reducible exact HB9.out | (with_reducible refine Below.drew ?_)))).out.mono ?_; rintro e w9 ⟨rfl, hb9⟩; have HB9 : Hid (Below w2.heap.size w2 w9) := Below.trans (by repeat (first | with_reducible exact Below.refl _ _ | with_reducible exact HB9.out | (with_reducible refine Below.drew ?_))) (hb9.mono (by first | exact Nat.le_refl _ | exact HB9.out.size | (simp; done) | (simp; exact HB9.out.size))); obtain ⟨s0, s1, s2⟩ := graph_box ((HB9.out.block _ hbl).trans HX2.out); clear hb9) | (go_at_call 12; refine (C2 _ (by repeat (first | with_reducible exact Below.refl _ _ | with_reducible exact HB9.out | (with_reducible refine Below.drew ?_)))).out.mono ?_; rintro e w9 ⟨rfl, hb9⟩; have HB9 : Hid (Below w2.heap.size w2 w9) := Below.trans (by repeat (first | with_reducible exact Below.refl _ _ | with_reducible exact HB9.out | (with_reducible refine Below.drew ?_))) (hb9.mono (by first | exact Nat.le_refl _ | exact HB9.out.size | (simp; done) | (simp; exact HB9.out.size))); obtain ⟨s0, s1, s2⟩ := graph_box ((HB9.out.block _ hbl).trans HX2.out); clear hb9) | (go_at_call 13; refine (C3 _ (by repeat (first | with_reducible exact Below.refl _ _ | with_reducible exact HB9.out | (with_reducible refine Below.drew ?_)))).out.mono ?_; rintro e w9 ⟨rfl, hb9⟩; have HB9 : Hid (Below w2.heap.size w2 w9) := Below.trans (by repeat (first | with_reducible exact Below.refl _ _ | with_reducible exact HB9.out | (with_reducible refine Below.drew ?_))) (hb9.mono (by first | exact Nat.le_refl _ | exact HB9.out.size | (simp; done) | (simp; exact HB9.out.size))); obtain ⟨s0, s1, s2⟩ := graph_box ((HB9.out.block _ hbl).trans HX2.out); clear hb9) | (go_at_call 14; refine (C4 _ (by repeat (first | with_reducible exact Below.refl _ _ | with_reducible exact HB9.out | (with_reducible refine Below.drew ?_)))).out.mono ?_; rintro e w9 ⟨rfl, hb9⟩; have HB9 : Hid (Below w2.heap.size w2 w9) := Below.trans (by repeat (first | with_reducible exact Below.refl _ _ | with_reducible exact HB9.out | (with_reducible refine Below.drew ?_))) (hb9.mono (by first | exact Nat.le_refl _ | exact HB9.out.size | (simp; done) | (simp; exact HB9.out.size))); obtain ⟨s0, s1, s2⟩ := graph_box ((HB9.out.block _ hbl).trans HX2.out); clear hb9))
  all_goals
    go_wp2_with fail
    go_ret
    exact ⟨rfl, HB2.out.trans (Below.mono (by repeat (first | with_reducible exact HB9.out | (with_reducible refine Below.drew ?_))) HB2.out.size)⟩
end Go.Proofs.Ytolappaekjdcgaa
