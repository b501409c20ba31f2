/- The law MatchingKonig. -/
import Derived.Test.YtolappaekjdcgaaF1
namespace Go.Proofs.Ytolappaekjdcgaa
open Go.RowKit Sm
set_option maxHeartbeats 4000000 in
set_option maxRecDepth 100000 in
theorem law5 (w : World) (M : Nat → Prop) (v : Value) (g : GrD) (h : IsGraph w M v g) :
    Calls Try.prog 5 #[v] w fun e w' => e = .returned (.bool true) ∧ Below w.heap.size w w' := by
  have HG := Lib.hid h
  obtain ⟨v2, rfl, -⟩ := h
  go_enter Try.func5, Try.ntmps5
  go_wp2_with fail
  refine nameW fun W1 hW1 => ?_
  have hB1 : Below w.heap.size w W1 := by rw [hW1.out]; exact (Below.refl w.heap.size w).alloc (Nat.le_refl _) _
  have hb1 : W1.heap[w.heap.size]? = some (.cells #[.int .i64 g.left, .int .i64 g.right, v2] 24 (0, 0)) := by rw [hW1.out, heap_alloc_if, if_pos rfl]
  have HB1 := Lib.hid hB1
  have HX1 := Lib.hid hb1
  have HG1 := Lib.hid (HG.out.below hB1)
  obtain ⟨c0, c1, c2⟩ := graph_box hb1
  clear hW1 hB1 hb1
  refine (sane_any W1).mono ?_
  rintro e w2 ⟨rfl, hb⟩
  have HB2 := Lib.hid (HB1.out.trans (hb.mono HB1.out.size))
  have HG2 := Lib.hid (HG1.out.below hb)
  have HX2 := Lib.hid ((hb.block _ (lt_heap HX1.out)).trans HX1.out)
  clear hb c0 c1 c2 HB1 HG1 HX1
  obtain ⟨c0, c1, c2⟩ := graph_box HX2.out
  have CF := Lib.hid (few_any w2 M _ g HG2.out)
  cases hfew : fewB g
  · rw [hfew] at CF
    clear hfew
    go_wp2_with fail
    refine CF.out.mono ?_
    rintro e w3 ⟨rfl, hb⟩
    go_wp2_with fail
    go_ret
    exact ⟨rfl, HB2.out.trans (hb.mono HB2.out.size)⟩
  rw [hfew] at CF
  have HFEW := Lib.hid hfew
  clear hfew
  go_wp2_with fail
  refine CF.out.mono ?_
  rintro e w3 ⟨rfl, hb⟩
  have HB3 := Lib.hid (HB2.out.trans (hb.mono HB2.out.size))
  have HG3 := Lib.hid (HG2.out.below hb)
  have HX3 := Lib.hid ((hb.block _ (lt_heap HX2.out)).trans HX2.out)
  clear hb c0 c1 c2 HB2 HG2 HX2
  obtain ⟨c0, c1, c2⟩ := graph_box HX3.out
  clear CF
  cases hc : chkB g
  · have CK := fun W hb => Lib.hid (mcheck_any W M _ g (HG3.out.below hb))
    rw [chkG_no hc] at CK
    have CM := Lib.hid (max_no w3 M _ g HG3.out hc)
    unfold ErrW at CM
    have CC := fun W hb => Lib.hid (cover_no W M _ g (HG3.out.below hb) hc)
    unfold ErrW at CC
    clear hc
    go_wp2_with fail
    refine CM.out.mono ?_
    rintro e w4 ⟨rfl, hb⟩
    have CC4 := CC w4 hb
    have HL4 := Lib.hid hb
    have HB4 := Lib.hid (HB3.out.trans (hb.mono HB3.out.size))
    have HG4 := Lib.hid (HG3.out.below hb)
    have HX4 := Lib.hid ((hb.block _ (lt_heap HX3.out)).trans HX3.out)
    clear hb c0 c1 c2 HB3 HG3 HX3
    obtain ⟨c0, c1, c2⟩ := graph_box HX4.out
    go_wp2_with fail
    refine CC4.out.mono ?_
    rintro e w5 ⟨rfl, hb⟩
    have CK5 := CK w5 (HL4.out.trans (hb.mono HL4.out.size))
    have HB5 := Lib.hid (HB4.out.trans (hb.mono HB4.out.size))
    have HG5 := Lib.hid (HG4.out.below hb)
    have HX5 := Lib.hid ((hb.block _ (lt_heap HX4.out)).trans HX4.out)
    clear hb c0 c1 c2 HB4 HG4 HX4
    obtain ⟨c0, c1, c2⟩ := graph_box HX5.out
    clear CC CC4 CK CM HL4
    go_wp2_with fail
    refine CK5.out.mono ?_
    rintro e w6 ⟨rfl, hb⟩
    go_wp2_with fail
    go_ret
    exact ⟨rfl, HB5.out.trans (hb.mono HB5.out.size)⟩
  · obtain ⟨L, R, hg⟩ := gok_of hc
    have HGO := Lib.hid hg
    have HC := Lib.hid hc
    have hl512 := hg.l512
    have hr512 := hg.r512
    have CM := Lib.hid (max_yes w3 M _ g HG3.out hc hg)
    clear hc hg
    go_wp2_with fail
    refine CM.out.mono ?_
    rintro e w4 ⟨v4, lf, rf, rfl, hi, hf, hb⟩
    obtain ⟨A4, d4, rfl⟩ := ints_sl hi (n := L) (by simp)
    have HI := Lib.hid hi
    have HF := Lib.hid hf
    clear hi hf CM
    have HB4 := Lib.hid (HB3.out.trans (hb.mono HB3.out.size))
    have HG4 := Lib.hid (HG3.out.below hb)
    have HX4 := Lib.hid ((hb.block _ (lt_heap HX3.out)).trans HX3.out)
    clear hb c0 c1 c2 HB3 HG3 HX3
    obtain ⟨c0, c1, c2⟩ := graph_box HX4.out
    have CC := Lib.hid (cover_yes w4 M _ g HG4.out HC.out HGO.out)
    go_wp2_with fail
    refine CC.out.mono ?_
    rintro e w5 ⟨v5, u5, lf5, rf5, Sl, Sr, rfl, hi, hj, hf, hd, hb⟩
    replace HI := Lib.hid (IsSl.below HI.out hb)
    have HS := Lib.hid (cover_len hf hd)
    have HC5 := Lib.hid (covers_ok HGO.out hd)
    have HSS := Lib.hid (same_size hf HF.out)
    have hla := selN_len (fun v => !Sl v) L
    have hlb := selN_len Sr R
    rw [← natI_len] at hla hlb
    obtain ⟨a, ha⟩ : ∃ a, a = natI (selN (fun v => !Sl v) L) := ⟨_, rfl⟩
    obtain ⟨b, hbb⟩ : ∃ b, b = natI (selN Sr R) := ⟨_, rfl⟩
    rw [← ha] at hi HS HC5 hla
    rw [← hbb] at hj HS HC5 hlb
    obtain ⟨A5, d5, rfl⟩ := ints_sl hi rfl
    obtain ⟨A6, d6, rfl⟩ := ints_sl hj rfl
    have HI5 := Lib.hid hi
    have HJ5 := Lib.hid hj
    clear hi hj hf hd CC ha hbb
    have HB5 := Lib.hid (HB4.out.trans (hb.mono HB4.out.size))
    have HG5 := Lib.hid (HG4.out.below hb)
    have HX5 := Lib.hid ((hb.block _ (lt_heap HX4.out)).trans HX4.out)
    clear hb c0 c1 c2 HB4 HG4 HX4
    obtain ⟨c0, c1, c2⟩ := graph_box HX5.out
    have CK := Lib.hid (mcheck_any w5 M _ g HG5.out)
    rw [chkG_yes HC.out] at CK
    go_wp2_with fail
    refine CK.out.mono ?_
    rintro e w6 ⟨rfl, hb⟩
    have HB6 := Lib.hid (HB5.out.trans (hb.mono HB5.out.size))
    have HG6 := Lib.hid (HG5.out.below hb)
    have HX6 := Lib.hid ((hb.block _ (lt_heap HX5.out)).trans HX5.out)
    replace HI := Lib.hid (IsSl.below HI.out hb)
    replace HI5 := Lib.hid (IsSl.below HI5.out hb)
    replace HJ5 := Lib.hid (IsSl.below HJ5.out hb)
    clear hb c0 c1 c2 HB5 HG5 HX5
    obtain ⟨c0, c1, c2⟩ := graph_box HX6.out
    have CV := Lib.hid (valid_any w6 M _ _ _ g _ HG6.out HI.out (by simp; omega))
    rw [validG_yes (max_valid HGO.out HC.out HF.out.inv)] at CV
    clear CK
    go_wp2_with fail
    refine CV.out.mono ?_
    rintro e w7 ⟨rfl, hb⟩
    have HB7 := Lib.hid (HB6.out.trans (hb.mono HB6.out.size))
    have HG7 := Lib.hid (HG6.out.below hb)
    have HX7 := Lib.hid ((hb.block _ (lt_heap HX6.out)).trans HX6.out)
    replace HI := Lib.hid (IsSl.below HI.out hb)
    replace HI5 := Lib.hid (IsSl.below HI5.out hb)
    replace HJ5 := Lib.hid (IsSl.below HJ5.out hb)
    clear hb c0 c1 c2 HB6 HG6 HX6
    obtain ⟨c0, c1, c2⟩ := graph_box HX7.out
    have CO := Lib.hid (covers_any w7 M _ _ _ _ _ g a b HG7.out HI5.out HJ5.out)
    rw [HC5.out] at CO
    clear CV
    go_wp2_with fail
    refine CO.out.mono ?_
    rintro e w8 ⟨rfl, hb⟩
    have HB8 := Lib.hid (HB7.out.trans (hb.mono HB7.out.size))
    have HG8 := Lib.hid (HG7.out.below hb)
    have HX8 := Lib.hid ((hb.block _ (lt_heap HX7.out)).trans HX7.out)
    replace HI := Lib.hid (IsSl.below HI.out hb)
    clear hb c0 c1 c2 HB7 HG7 HX7
    obtain ⟨c0, c1, c2⟩ := graph_box HX8.out
    have CS := Lib.hid (size_any w8 _ _ _ HI.out)
    rw [szI_map _ HF.out.inv.ll, ← HSS.out, ← HS.out] at CS
    clear CO
    go_wp2_with fail
    refine CS.out.mono ?_
    rintro e w9 ⟨rfl, rfl⟩
    go_wp2_with fail
    go_ret
    exact ⟨ret_bool (by simp), HB8.out⟩
end Go.Proofs.Ytolappaekjdcgaa
