/- The law WalOpenSpec. -/
import Derived.Test.YtocjhepiooljpaaF2
import Derived.Test.YtocjhepiooljpaaA15
namespace Go.Proofs.Ytocjhepiooljpaa
open Go.RowKit Go.Deep Go.Shelf

theorem lens_nil : LensR [] := fun i hi => absurd hi (by simp)
theorem openL_len (d : DiskD) : (openL d).1.recs.length ≤ 4096 := by
  unfold openL
  split
  · rename_i hok
    split
    · exact Nat.zero_le _
    · split
      · exact Nat.zero_le _
      · have := okB_sized hok
        have := recs_len this.2
        show (recs d.sectors).length ≤ _
        omega
  · exact Nat.zero_le _
set_option maxRecDepth 20000 in
set_option maxHeartbeats 4000000 in
theorem law3 (w : World) (M : Nat → Prop) (v : Value) (d : DiskD) (h : IsDisk w M v d) : Calls Try.prog 3 #[v] w fun e w' => e = .returned (.bool true) ∧ Below w.heap.size w w' := by
  obtain ⟨L, c, hL⟩ : ∃ L c, openL d = (L, c) := ⟨_, _, rfl⟩
  have hl := openL_len d
  rw [hL] at hl
  obtain ⟨sA, sc, pA, pc, rfl, -⟩ := h.parts
  have HG := Lib.hid h
  have HL := Lib.hid hL
  have HLL := Lib.hid hl
  clear h hL hl
  go_enter Try.func3, Try.ntmps3
  go_wp2_with fail
  refine nameW fun W1 hW => ?_
  have hB1 : Below w.heap.size w W1 := by rw [hW.out]; exact (Below.refl _ _).alloc (Nat.le_refl _) _
  have HX := Lib.hid (show W1.heap[w.heap.size]? = some (.cells #[.slice sA d.sectors.length sc, .slice pA d.pending.length pc, .int .i64 d.left, .bool d.stopped] 25 (0, 0)) by rw [hW.out]; exact heap_alloc_new _ _)
  have HB := Lib.hid hB1
  replace HG := Lib.hid (HG.out.below hB1)
  clear hW hB1
  refine (sane_any W1).mono ?_
  rintro e w2 ⟨rfl, hb⟩
  replace HX := Lib.hid ((hb.block _ (lt_heap HX.out)).trans HX.out)
  replace HG := Lib.hid (HG.out.below hb)
  replace HB := Lib.hid (HB.out.trans (hb.mono HB.out.size))
  clear hb
  obtain ⟨c0, c1, c2, c3⟩ := (blk4 (Below.refl _ _) HX.out (lt_heap HX.out)).1
  go_wp2_with fail
  refine (few_any w2 _ M d _ HG.out [] _ lens_nil (by simp) IsMat.nil).mono ?_
  rintro e w3 ⟨z, rfl, -, hb⟩
  replace HX := Lib.hid ((hb.block _ (lt_heap HX.out)).trans HX.out)
  replace HG := Lib.hid (HG.out.below hb)
  replace HB := Lib.hid (HB.out.trans (hb.mono HB.out.size))
  clear hb c0 c1 c2 c3
  obtain ⟨c0, c1, c2, c3⟩ := (blk4 (Below.refl _ _) HX.out (lt_heap HX.out)).1
  cases z
  · go_wp2_with fail
    go_ret
    exact ⟨rfl, HB.out⟩
  have CO := Lib.hid (open_any w3 _ d _ HG.out)
  rw [HL.out] at CO
  go_wp2_with fail
  refine CO.out.mono ?_
  rintro e w4 ⟨v4, rfl, hl4, hb⟩
  obtain ⟨A4, n4, rfl, hl4⟩ := hl4.form rfl rfl
  have H4 := Lib.hid hl4
  replace HX := Lib.hid ((hb.block _ (lt_heap HX.out)).trans HX.out)
  replace HG := Lib.hid (HG.out.below hb)
  replace HB := Lib.hid (HB.out.trans (hb.mono HB.out.size))
  clear hb c0 c1 c2 c3 CO hl4
  have hlt := lt_heap HX.out
  obtain ⟨c0, c1, c2, c3⟩ := (blk4 (Below.refl _ _) HX.out (lt_heap HX.out)).1
  go_wp2_with fail
  refine nameW fun W5 hW => ?_
  have hb : Below w4.heap.size w4 W5 := by rw [hW.out]; exact (Below.refl _ _).alloc (Nat.le_refl _) _
  have HY := Lib.hid (show W5.heap[w4.heap.size]? = some (.cells #[.int .i64 L.many, .slice A4 L.recs.length n4, .int .i64 L.synced] 29 (0, 0)) by rw [hW.out]; exact heap_alloc_new _ _)
  replace HX := Lib.hid ((hb.block _ (lt_heap HX.out)).trans HX.out)
  replace HG := Lib.hid (HG.out.below hb)
  replace H4 := Lib.hid (H4.out.below hb)
  replace HB := Lib.hid (HB.out.trans (hb.mono HB.out.size))
  clear hW hb c0 c1 c2 c3
  have CO := Lib.hid (refOpen_any W5 _ d _ HG.out)
  rw [HL.out] at CO
  refine CO.out.mono ?_
  rintro e w6 ⟨v6, rfl, hl6, hb⟩
  obtain ⟨A6, n6, rfl, hl6⟩ := hl6.form rfl rfl
  have H6 := Lib.hid hl6
  replace HY := Lib.hid ((hb.block _ (lt_heap HY.out)).trans HY.out)
  replace H4 := Lib.hid (H4.out.below hb)
  replace HB := Lib.hid (HB.out.trans (hb.mono HB.out.size))
  clear hb CO hl6 hlt
  have hlt := lt_heap HY.out
  obtain ⟨c0, c1, c2⟩ := (blk3 (Below.refl _ _) HY.out (lt_heap HY.out)).1
  go_wp2_with fail
  refine nameW fun W7 hW => ?_
  have hb : Below w6.heap.size w6 W7 := by rw [hW.out]; exact (Below.refl _ _).alloc (Nat.le_refl _) _
  replace H4 := Lib.hid (H4.out.below hb)
  replace H6 := Lib.hid (H6.out.below hb)
  replace HB := Lib.hid (HB.out.trans (hb.mono HB.out.size))
  clear hW hb
  refine (lsame_any W7 _ _ L _ _ (Nat.le_trans HLL.out (by decide)) H4.out H6.out).mono ?_
  rintro e w8 ⟨rfl, hb⟩
  replace HB := Lib.hid (HB.out.trans (hb.mono HB.out.size))
  have hcc : (c == c) = true := by simp
  clear hb c0 c1 c2
  go_wp2_with fail
  go_ret
  exact ⟨rfl, HB.out⟩
end Go.Proofs.Ytocjhepiooljpaa
