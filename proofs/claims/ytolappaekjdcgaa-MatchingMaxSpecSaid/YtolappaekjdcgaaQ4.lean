/- The law MatchingMaxSpec. -/
import Derived.Test.YtolappaekjdcgaaF1
import Derived.Test.YtolappaekjdcgaaV6
import Derived.Test.YtolappaekjdcgaaV7
namespace Go.Proofs.Ytolappaekjdcgaa
open Go.RowKit Sm
set_option maxHeartbeats 4000000 in
set_option maxRecDepth 100000 in
theorem law4 (w : World) (M : Nat → Prop) (v : Value) (g : GrD) (h : IsGraph w M v g) :
    Calls Try.prog 4 #[v] w fun e w' => e = .returned (.bool true) ∧ Below w.heap.size w w' := by
  have HG := Lib.hid h
  obtain ⟨v2, rfl, -⟩ := h
  go_enter Try.func4, Try.ntmps4
  go_wp2_with fail
  refine nameW fun W1 hW1 => ?_
  have hB1 : Below w.heap.size w W1 := by rw [hW1.out]; exact (Below.refl w.heap.size w).alloc (Nat.le_refl _) _
  have hb1 : W1.heap[w.heap.size]? = some (.cells #[.int .i64 g.left, .int .i64 g.right, v2] 24 (0, 0)) := by rw [hW1.out, heap_alloc_if, if_pos rfl]
  have HB1 := Lib.hid hB1
  have HX1 := Lib.hid hb1
  have HG1 := Lib.hid (HG.out.below hB1)
  obtain ⟨c0, c1, c2⟩ := graph_box hb1
  clear hW1 hB1 hb1
  refine (sane_any W1).mono ?_
  rintro e w2 ⟨rfl, hb⟩
  have HB2 := Lib.hid (HB1.out.trans (hb.mono HB1.out.size))
  have HG2 := Lib.hid (HG1.out.below hb)
  have HX2 := Lib.hid ((hb.block _ (lt_heap HX1.out)).trans HX1.out)
  clear hb c0 c1 c2 HB1 HG1 HX1
  obtain ⟨c0, c1, c2⟩ := graph_box HX2.out
  by_cases hl6 : 6 < g.left
  · go_wp2_with fail
    go_ret
    exact ⟨rfl, HB2.out⟩
  have CF := Lib.hid (few_any w2 M _ g HG2.out)
  cases hfew : fewB g
  · rw [hfew] at CF
    clear hfew
    go_wp2_with fail
    refine CF.out.mono ?_
    rintro e w3 ⟨rfl, hb⟩
    go_wp2_with fail
    go_ret
    exact ⟨rfl, HB2.out.trans (hb.mono HB2.out.size)⟩
  rw [hfew] at CF
  have HFEW := Lib.hid hfew
  clear hfew
  go_wp2_with fail
  refine CF.out.mono ?_
  rintro e w3 ⟨rfl, hb⟩
  have HB3 := Lib.hid (HB2.out.trans (hb.mono HB2.out.size))
  have HG3 := Lib.hid (HG2.out.below hb)
  have HX3 := Lib.hid ((hb.block _ (lt_heap HX2.out)).trans HX2.out)
  clear hb c0 c1 c2 HB2 HG2 HX2
  obtain ⟨c0, c1, c2⟩ := graph_box HX3.out
  clear CF
  cases hc : chkB g
  · have CM := Lib.hid (max_no w3 M _ g HG3.out hc)
    unfold ErrW at CM
    have CK := fun W hb => Lib.hid (refCheck_any W M _ g (HG3.out.below hb))
    rw [chkG_no hc] at CK
    clear hc
    go_wp2_with fail
    refine CM.out.mono ?_
    rintro e w4 ⟨rfl, hb⟩
    have CK4 := CK w4 hb
    have HB4 := Lib.hid (HB3.out.trans (hb.mono HB3.out.size))
    have HG4 := Lib.hid (HG3.out.below hb)
    have HX4 := Lib.hid ((hb.block _ (lt_heap HX3.out)).trans HX3.out)
    clear hb c0 c1 c2 HB3 HG3 HX3
    obtain ⟨c0, c1, c2⟩ := graph_box HX4.out
    go_wp2_with fail
    refine CK4.out.mono ?_
    rintro e w5 ⟨rfl, hb⟩
    go_wp2_with fail
    go_ret
    exact ⟨rfl, HB4.out.trans (hb.mono HB4.out.size)⟩
  · obtain ⟨L, R, hg⟩ := gok_of hc
    have HGO := Lib.hid hg
    have HC := Lib.hid hc
    have hl512 := hg.l512
    have hr512 := hg.r512
    have CM := Lib.hid (max_yes w3 M _ g HG3.out hc hg)
    clear hc hg
    go_wp2_with fail
    refine CM.out.mono ?_
    rintro e w4 ⟨v4, lf, rf, rfl, hi, hf, hb⟩
    obtain ⟨A4, d4, rfl⟩ := ints_sl hi (n := L) (by simp)
    have HI := Lib.hid hi
    have HF := Lib.hid hf
    clear hi hf CM
    have HB4 := Lib.hid (HB3.out.trans (hb.mono HB3.out.size))
    have HG4 := Lib.hid (HG3.out.below hb)
    have HX4 := Lib.hid ((hb.block _ (lt_heap HX3.out)).trans HX3.out)
    clear hb c0 c1 c2 HB3 HG3 HX3
    obtain ⟨c0, c1, c2⟩ := graph_box HX4.out
    have CK := Lib.hid (refCheck_any w4 M _ g HG4.out)
    rw [chkG_yes HC.out] at CK
    go_wp2_with fail
    refine CK.out.mono ?_
    rintro e w5 ⟨rfl, hb⟩
    have HB5 := Lib.hid (HB4.out.trans (hb.mono HB4.out.size))
    have HG5 := Lib.hid (HG4.out.below hb)
    have HX5 := Lib.hid ((hb.block _ (lt_heap HX4.out)).trans HX4.out)
    replace HI := Lib.hid (IsSl.below HI.out hb)
    clear hb c0 c1 c2 HB4 HG4 HX4
    obtain ⟨c0, c1, c2⟩ := graph_box HX5.out
    have hbl := lt_heap HX5.out
    have CV := fun W (hb : Below w5.heap.size w5 W) => Lib.hid (refValid_any W M _ _ _ g _ (HG5.out.below hb) (IsSl.below HI.out hb) (by simp; omega))
    have CS := fun W (hb : Below w5.heap.size w5 W) => Lib.hid (size_any W _ _ _ (IsSl.below HI.out hb))
    have CL := fun W (hb : Below w5.heap.size w5 W) => Lib.hid (largest_any W M _ g (HG5.out.below hb) HGO.out)
    rw [validG_yes (max_valid HGO.out HC.out HF.out.inv)] at CV
    rw [szI_map _ HF.out.inv.ll, best_max HGO.out HF.out] at CS
    obtain ⟨z, hz⟩ : ∃ z, z = bestD g L L (fun _ => false) := ⟨_, rfl⟩
    rw [← hz] at CS CL
    have hzz : ((z : Int) == (z : Int)) = true := by simp
    clear CK hz
    go_wp2_with fail
    go_region_held3 (fun w' => w'.cell? ⟨w.heap.size, 0, none⟩ = some (.int .i64 g.left) ∧ w'.cell? ⟨w.heap.size, 1, none⟩ = some (.int .i64 g.right) ∧ w'.cell? ⟨w.heap.size, 2, none⟩ = some v2) (first | with_reducible exact ⟨c0, c1, c2⟩ | with_reducible exact ⟨s0, s1, s2⟩ | go_keep) (first | (go_at_call 14; refine (CV _ (by repeat (first | with_reducible exact Below.refl _ _ | with_reducible exact HB9.out | (with_reducible refine Below.drew ?_)))).out.mono ?_; rintro e w9 ⟨rfl, hb9⟩; have HB9 : Hid (Below w5.heap.size w5 w9) := Below.trans (by repeat (first | with_reducible exact Below.refl _ _ | with_reducible exact HB9.out | (with_reducible refine Below.drew ?_))) (hb9.mono (by first | exact Nat.le_refl _ | exact HB9.out.size | (simp; done) | (simp; exact HB9.out.size))); obtain ⟨s0, s1, s2⟩ := graph_box ((HB9.out.block _ hbl).trans HX5.out); clear hb9) | (go_at_call 17; refine (CS _ (by repeat (first | with_reducible exact Below.refl _ _ | with_reducible exact HB9.out | (with_reducible refine Below.drew ?_)))).out.mono ?_; rintro e w9 ⟨rfl, rfl⟩) | (go_at_call 18; refine (CL _ (by repeat (first | with_reducible exact Below.refl _ _ | with_reducible exact HB9.out | (with_reducible refine Below.drew ?_)))).out.mono ?_; rintro e w9 ⟨rfl, hb9⟩; have HB9 : Hid (Below w5.heap.size w5 w9) := Below.trans (by repeat (first | with_reducible exact Below.refl _ _ | with_reducible exact HB9.out | (with_reducible refine Below.drew ?_))) (hb9.mono (by first | exact Nat.le_refl _ | exact HB9.out.size | (simp; done) | (simp; exact HB9.out.size))); obtain ⟨s0, s1, s2⟩ := graph_box ((HB9.out.block _ hbl).trans HX5.out); clear hb9))
    all_goals
      go_wp2_with fail
      go_ret
      exact ⟨rfl, HB5.out.trans (Below.mono (by repeat (first | with_reducible exact HB9.out | (with_reducible refine Below.drew ?_))) HB5.out.size)⟩
end Go.Proofs.Ytolappaekjdcgaa
