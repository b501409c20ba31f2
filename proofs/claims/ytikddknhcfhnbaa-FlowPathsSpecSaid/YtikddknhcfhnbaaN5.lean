/- The law FlowPathsSpec. -/
import Derived.Test.YtikddknhcfhnbaaF8
import Derived.Test.YtikddknhcfhnbaaF6
namespace Go.Proofs.Ytikddknhcfhnbaa
open Go.RowKit Go.Deep
set_option maxHeartbeats 4000000 in
set_option maxRecDepth 100000 in
theorem law5 (w : World) (M : Nat → Prop) (v : Value) (n : NetD) (h : IsNet w M v n) (M1 : Nat → Prop) (v1 : Value) (f : List Int) (h1 : IsInts w M1 v1 f) :
    Calls Try.prog 5 #[v, v1] w fun e w' => e = .returned (.bool true) ∧ Below w.heap.size w w' := by
  have HG := Lib.hid h
  obtain ⟨va, rfl, hva⟩ := id h
  obtain ⟨A, c, rfl, -⟩ := id hva
  have HI1 := Lib.hid h1
  obtain ⟨A1, kc1, rfl, hlc1, -⟩ := id h1
  clear h hva h1
  go_enter Try.func5, Try.ntmps5
  go_wp2_with fail
  refine nameW fun W1 hW1 => ?_
  have hB1 : Below w.heap.size w W1 := by rw [hW1.out]; exact (Below.refl w.heap.size w).alloc (Nat.le_refl _) _
  have hb1 : W1.heap[w.heap.size]? = some (.cells #[.int .i64 n.vs, .slice A n.arcs.length c] 24 (0, 0)) := by rw [hW1.out, heap_alloc_if, if_pos rfl]
  clear hW1
  refine (sane_any W1).mono ?_
  rintro e w2 ⟨rfl, hb⟩
  have hX2 := (hb.block _ (lt_heap hb1)).trans hb1
  have HX2 := Lib.hid hX2
  have HB2 := Lib.hid (hB1.trans (hb.mono hB1.size))
  have HG2 := Lib.hid (HG.out.below HB2.out)
  replace HI1 := Lib.hid (IsSl.below HI1.out HB2.out)
  have hbl := lt_heap HX2.out
  have c0 : w2.cell? ⟨w.heap.size, 0, none⟩ = some (.int .i64 n.vs) := cell_of hX2 rfl
  have c1 : w2.cell? ⟨w.heap.size, 1, none⟩ = some (.slice A n.arcs.length c) := cell_of hX2 rfl
  clear hb hb1 hB1 hX2
  have CC := few_any w2 M _ n HG2.out
  go_wp2_with fail
  refine CC.mono ?_
  rintro e w3 ⟨rfl, hb⟩
  have HB3 := Lib.hid (HB2.out.trans (hb.mono HB2.out.size))
  have hX3 := (hb.block _ hbl).trans HX2.out
  have HX3 := Lib.hid hX3
  have HG3 := Lib.hid (HG2.out.below hb)
  replace HI1 := Lib.hid (IsSl.below HI1.out hb)
  replace hbl := lt_heap HX3.out
  replace c0 : w3.cell? ⟨w.heap.size, 0, none⟩ = some (.int .i64 n.vs) := cell_of hX3 rfl
  replace c1 : w3.cell? ⟨w.heap.size, 1, none⟩ = some (.slice A n.arcs.length c) := cell_of hX3 rfl
  clear hb hX3 CC
  cases hfw : fewN n
  · go_wp2_with fail
    go_ret
    exact ⟨rfl, HB3.out⟩
  by_cases hlf : 60 < f.length
  · have hlfi : (60 : Int) < (f.length : Int) := by omega
    go_wp2_with fail
    go_ret
    exact ⟨rfl, HB3.out⟩
  have hlfi : ¬ (60 : Int) < (f.length : Int) := by omega
  clear hfw
  cases hvb : valB n f
  · have hvn := valF_no hvb
    have CC := paths_any w3 _ _ _ _ n f HG3.out HI1.out
    go_wp2_with fail
    refine CC.mono ?_
    rintro e w4 ⟨hb, hor⟩
    obtain ⟨-, rfl⟩ : valB n f = false ∧ e = .returned (.tuple #[.slice none 0 0, .slice none 0 0, .int .i64 270]) := by
      rcases hor with h | ⟨V, ps, am, L, W, v1, v2, base, -, h1, -⟩
      · exact h
      · rw [hvb] at h1; cases h1
    clear hor
    have HB4 := Lib.hid (HB3.out.trans (hb.mono HB3.out.size))
    have hX4 := (hb.block _ hbl).trans HX3.out
    have HX4 := Lib.hid hX4
    have HG4 := Lib.hid (HG3.out.below hb)
    replace HI1 := Lib.hid (IsSl.below HI1.out hb)
    replace hbl := lt_heap HX4.out
    replace c0 : w4.cell? ⟨w.heap.size, 0, none⟩ = some (.int .i64 n.vs) := cell_of hX4 rfl
    replace c1 : w4.cell? ⟨w.heap.size, 1, none⟩ = some (.slice A n.arcs.length c) := cell_of hX4 rfl
    clear hb hX4 CC
    have CC := rvalue_any w4 _ _ _ _ n f HG4.out HI1.out
    rw [hvn] at CC
    go_wp2_with fail
    refine CC.mono ?_
    rintro e w5 ⟨rfl, hb⟩
    have HB5 := Lib.hid (HB4.out.trans (hb.mono HB4.out.size))
    have hX5 := (hb.block _ hbl).trans HX4.out
    have HX5 := Lib.hid hX5
    have HG5 := Lib.hid (HG4.out.below hb)
    replace HI1 := Lib.hid (IsSl.below HI1.out hb)
    replace hbl := lt_heap HX5.out
    replace c0 : w5.cell? ⟨w.heap.size, 0, none⟩ = some (.int .i64 n.vs) := cell_of hX5 rfl
    replace c1 : w5.cell? ⟨w.heap.size, 1, none⟩ = some (.slice A n.arcs.length c) := cell_of hX5 rfl
    clear hb hX5 CC
    clear hvn hvb
    go_wp2_with fail
    go_ret
    exact ⟨rfl, HB5.out⟩
  have hvy := valF_yes hvb
  have CC := paths_any w3 _ _ _ _ n f HG3.out HI1.out
  go_wp2_with fail
  refine CC.mono ?_
  rintro e w4 ⟨hb, hor⟩
  rcases hor with ⟨h1, -⟩ | ⟨V, ps, am, L, W, v1, v2, base, hn, -, rfl, hpp, hwz, hpl, -, hrw, ham⟩
  · rw [hvb] at h1; cases h1
  obtain ⟨A5, d5, rfl⟩ := hrw.sl
  have hia := IsInts.ofOwn ham
  obtain ⟨A6, d6, rfl⟩ := own_sl ham
  have HRW := Lib.hid hrw
  have HAM := Lib.hid hia
  have HNO := Lib.hid hn
  have HPP := Lib.hid hpp
  clear hrw hia ham hn hpp
  have HB4 := Lib.hid (HB3.out.trans (hb.mono HB3.out.size))
  have hX4 := (hb.block _ hbl).trans HX3.out
  have HX4 := Lib.hid hX4
  have HG4 := Lib.hid (HG3.out.below hb)
  replace HI1 := Lib.hid (IsSl.below HI1.out hb)
  replace hbl := lt_heap HX4.out
  replace c0 : w4.cell? ⟨w.heap.size, 0, none⟩ = some (.int .i64 n.vs) := cell_of hX4 rfl
  replace c1 : w4.cell? ⟨w.heap.size, 1, none⟩ = some (.slice A n.arcs.length c) := cell_of hX4 rfl
  clear hb hX4 CC
  have CC := rvalue_any w4 _ _ _ _ n f HG4.out HI1.out
  rw [hvy] at CC
  go_wp2_with fail
  refine CC.mono ?_
  rintro e w5 ⟨rfl, hb⟩
  have HB5 := Lib.hid (HB4.out.trans (hb.mono HB4.out.size))
  have hX5 := (hb.block _ hbl).trans HX4.out
  have HX5 := Lib.hid hX5
  have HG5 := Lib.hid (HG4.out.below hb)
  replace HI1 := Lib.hid (IsSl.below HI1.out hb)
  replace HAM := Lib.hid (IsSl.below HAM.out hb)
  replace HRW := Lib.hid (RowsW.below HRW.out hb)
  replace hbl := lt_heap HX5.out
  replace c0 : w5.cell? ⟨w.heap.size, 0, none⟩ = some (.int .i64 n.vs) := cell_of hX5 rfl
  replace c1 : w5.cell? ⟨w.heap.size, 1, none⟩ = some (.slice A n.arcs.length c) := cell_of hX5 rfl
  clear hb hX5 CC
  have CC := rpaths_any w5 _ _ _ _ _ _ _ _ n V f ps am L W HG5.out HI1.out HRW.out HAM.out HNO.out hvb HPP.out hwz hpl
  go_wp2_with fail
  refine CC.mono ?_
  rintro e w6 ⟨rfl, hb⟩
  have HB6 := Lib.hid (HB5.out.trans (hb.mono HB5.out.size))
  have hX6 := (hb.block _ hbl).trans HX5.out
  have HX6 := Lib.hid hX6
  have HG6 := Lib.hid (HG5.out.below hb)
  replace HI1 := Lib.hid (IsSl.below HI1.out hb)
  replace HAM := Lib.hid (IsSl.below HAM.out hb)
  replace HRW := Lib.hid (RowsW.below HRW.out hb)
  replace hbl := lt_heap HX6.out
  replace c0 : w6.cell? ⟨w.heap.size, 0, none⟩ = some (.int .i64 n.vs) := cell_of hX6 rfl
  replace c1 : w6.cell? ⟨w.heap.size, 1, none⟩ = some (.slice A n.arcs.length c) := cell_of hX6 rfl
  clear hb hX6 CC
  clear hvb hvy hwz hpl
  go_wp2_with fail
  go_ret
  exact ⟨rfl, HB6.out⟩
end Go.Proofs.Ytikddknhcfhnbaa
