/- The law FlowMaxSpec. -/
import Derived.Test.YtikddknhcfhnbaaF8
import Derived.Test.YtikddknhcfhnbaaF6
namespace Go.Proofs.Ytikddknhcfhnbaa
open Go.RowKit Go.Deep
set_option maxHeartbeats 4000000 in
set_option maxRecDepth 100000 in
theorem law4 (w : World) (M : Nat → Prop) (v : Value) (n : NetD) (h : IsNet w M v n) :
    Calls Try.prog 4 #[v] w fun e w' => e = .returned (.bool true) ∧ Below w.heap.size w w' := by
  have HG := Lib.hid h
  obtain ⟨va, rfl, hva⟩ := id h
  obtain ⟨A, c, rfl, -⟩ := id hva
  clear h hva
  go_enter Try.func4, Try.ntmps4
  go_wp2_with fail
  refine nameW fun W1 hW1 => ?_
  have hB1 : Below w.heap.size w W1 := by rw [hW1.out]; exact (Below.refl w.heap.size w).alloc (Nat.le_refl _) _
  have hb1 : W1.heap[w.heap.size]? = some (.cells #[.int .i64 n.vs, .slice A n.arcs.length c] 24 (0, 0)) := by rw [hW1.out, heap_alloc_if, if_pos rfl]
  clear hW1
  refine (sane_any W1).mono ?_
  rintro e w2 ⟨rfl, hb⟩
  have hX2 := (hb.block _ (lt_heap hb1)).trans hb1
  have HX2 := Lib.hid hX2
  have HB2 := Lib.hid (hB1.trans (hb.mono hB1.size))
  have HG2 := Lib.hid (HG.out.below HB2.out)
  have hbl := lt_heap HX2.out
  have c0 : w2.cell? ⟨w.heap.size, 0, none⟩ = some (.int .i64 n.vs) := cell_of hX2 rfl
  have c1 : w2.cell? ⟨w.heap.size, 1, none⟩ = some (.slice A n.arcs.length c) := cell_of hX2 rfl
  clear hb hb1 hB1 hX2
  have CC := few_any w2 M _ n HG2.out
  go_wp2_with fail
  refine CC.mono ?_
  rintro e w3 ⟨rfl, hb⟩
  have HB3 := Lib.hid (HB2.out.trans (hb.mono HB2.out.size))
  have hX3 := (hb.block _ hbl).trans HX2.out
  have HX3 := Lib.hid hX3
  have HG3 := Lib.hid (HG2.out.below hb)
  replace hbl := lt_heap HX3.out
  replace c0 : w3.cell? ⟨w.heap.size, 0, none⟩ = some (.int .i64 n.vs) := cell_of hX3 rfl
  replace c1 : w3.cell? ⟨w.heap.size, 1, none⟩ = some (.slice A n.arcs.length c) := cell_of hX3 rfl
  clear hb hX3 CC
  cases hfw : fewN n
  · go_wp2_with fail
    go_ret
    exact ⟨rfl, HB3.out⟩
  have hv9 : n.vs ≤ 9 := by
    unfold fewN at hfw
    rw [Bool.and_eq_true, decide_eq_true_eq] at hfw
    exact hfw.1
  have HV9 := Lib.hid hv9
  clear hfw hv9
  cases hch : chkN n
  · have hcz := chkF_no hch
    have CC := max_no w3 _ _ n HG3.out hch
    go_wp2_with fail
    refine CC.mono ?_
    rintro e w4 ⟨rfl, hb⟩
    have HB4 := Lib.hid (HB3.out.trans (hb.mono HB3.out.size))
    have hX4 := (hb.block _ hbl).trans HX3.out
    have HX4 := Lib.hid hX4
    have HG4 := Lib.hid (HG3.out.below hb)
    replace hbl := lt_heap HX4.out
    replace c0 : w4.cell? ⟨w.heap.size, 0, none⟩ = some (.int .i64 n.vs) := cell_of hX4 rfl
    replace c1 : w4.cell? ⟨w.heap.size, 1, none⟩ = some (.slice A n.arcs.length c) := cell_of hX4 rfl
    clear hb hX4 CC
    have CC := rcheck_any w4 _ _ n HG4.out
    rw [hcz] at CC
    go_wp2_with fail
    refine CC.mono ?_
    rintro e w5 ⟨rfl, hb⟩
    have HB5 := Lib.hid (HB4.out.trans (hb.mono HB4.out.size))
    have hX5 := (hb.block _ hbl).trans HX4.out
    have HX5 := Lib.hid hX5
    have HG5 := Lib.hid (HG4.out.below hb)
    replace hbl := lt_heap HX5.out
    replace c0 : w5.cell? ⟨w.heap.size, 0, none⟩ = some (.int .i64 n.vs) := cell_of hX5 rfl
    replace c1 : w5.cell? ⟨w.heap.size, 1, none⟩ = some (.slice A n.arcs.length c) := cell_of hX5 rfl
    clear hb hX5 CC
    clear hcz
    go_wp2_with fail
    go_ret
    exact ⟨rfl, HB5.out⟩
  have hcz := chkF_yes hch
  have CC := max_yes w3 _ _ n HG3.out hch
  go_wp2_with fail
  refine CC.mono ?_
  rintro e w4 ⟨V, fl, val, sd, v1, v2, hn, rfl, hbest, hi1, hi2, hb⟩
  obtain ⟨A1, d1, rfl⟩ := ints_sl hi1 rfl
  obtain ⟨A2, d2, rfl⟩ := ints_sl hi2 rfl
  have HI1 := Lib.hid hi1
  have HI2 := Lib.hid hi2
  have HBE := Lib.hid hbest
  have HNO := Lib.hid hn
  clear hi1 hi2 hbest hn
  have HB4 := Lib.hid (HB3.out.trans (hb.mono HB3.out.size))
  have hX4 := (hb.block _ hbl).trans HX3.out
  have HX4 := Lib.hid hX4
  have HG4 := Lib.hid (HG3.out.below hb)
  replace hbl := lt_heap HX4.out
  replace c0 : w4.cell? ⟨w.heap.size, 0, none⟩ = some (.int .i64 n.vs) := cell_of hX4 rfl
  replace c1 : w4.cell? ⟨w.heap.size, 1, none⟩ = some (.slice A n.arcs.length c) := cell_of hX4 rfl
  clear hb hX4 CC
  have CC := rcheck_any w4 _ _ n HG4.out
  rw [hcz] at CC
  go_wp2_with fail
  refine CC.mono ?_
  rintro e w5 ⟨rfl, hb⟩
  have HB5 := Lib.hid (HB4.out.trans (hb.mono HB4.out.size))
  have hX5 := (hb.block _ hbl).trans HX4.out
  have HX5 := Lib.hid hX5
  have HG5 := Lib.hid (HG4.out.below hb)
  replace HI1 := Lib.hid (IsSl.below HI1.out hb)
  replace HI2 := Lib.hid (IsSl.below HI2.out hb)
  replace hbl := lt_heap HX5.out
  replace c0 : w5.cell? ⟨w.heap.size, 0, none⟩ = some (.int .i64 n.vs) := cell_of hX5 rfl
  replace c1 : w5.cell? ⟨w.heap.size, 1, none⟩ = some (.slice A n.arcs.length c) := cell_of hX5 rfl
  clear hb hX5 CC
  have CC := least_any w5 _ _ n V HG5.out HNO.out hch (by have := HNO.out.vs; have := HV9.out; omega)
  go_wp2_with fail
  refine CC.mono ?_
  rintro e w6 ⟨v3, cl, best, rfl, hi3, hli, hb⟩
  obtain ⟨rfl, rfl⟩ := hli.fin HNO.out hch HBE.out
  obtain ⟨A3, d3, rfl⟩ := ints_sl hi3 rfl
  have HI3 := Lib.hid hi3
  clear hi3 hli
  have HB6 := Lib.hid (HB5.out.trans (hb.mono HB5.out.size))
  have hX6 := (hb.block _ hbl).trans HX5.out
  have HX6 := Lib.hid hX6
  have HG6 := Lib.hid (HG5.out.below hb)
  replace HI1 := Lib.hid (IsSl.below HI1.out hb)
  replace HI2 := Lib.hid (IsSl.below HI2.out hb)
  replace hbl := lt_heap HX6.out
  replace c0 : w6.cell? ⟨w.heap.size, 0, none⟩ = some (.int .i64 n.vs) := cell_of hX6 rfl
  replace c1 : w6.cell? ⟨w.heap.size, 1, none⟩ = some (.slice A n.arcs.length c) := cell_of hX6 rfl
  clear hb hX6 CC
  have CC := rvalue_any w6 _ _ _ _ n fl HG6.out HI1.out
  rw [HBE.out.vF] at CC
  go_wp2_with fail
  refine CC.mono ?_
  rintro e w7 ⟨rfl, hb⟩
  have HB7 := Lib.hid (HB6.out.trans (hb.mono HB6.out.size))
  have hX7 := (hb.block _ hbl).trans HX6.out
  have HX7 := Lib.hid hX7
  have HG7 := Lib.hid (HG6.out.below hb)
  replace HI1 := Lib.hid (IsSl.below HI1.out hb)
  replace HI2 := Lib.hid (IsSl.below HI2.out hb)
  replace HI3 := Lib.hid (IsSl.below HI3.out hb)
  replace hbl := lt_heap HX7.out
  replace c0 : w7.cell? ⟨w.heap.size, 0, none⟩ = some (.int .i64 n.vs) := cell_of hX7 rfl
  replace c1 : w7.cell? ⟨w.heap.size, 1, none⟩ = some (.slice A n.arcs.length c) := cell_of hX7 rfl
  clear hb hX7 CC
  have CC := same_any w7 _ _ _ _ _ _ HI2.out HI3.out
  rw [decide_eq_true rfl] at CC
  go_wp2_with fail
  refine CC.mono ?_
  rintro e w8 ⟨rfl, hD⟩
  have hb := hD.below
  clear hD
  have HB8 := Lib.hid (HB7.out.trans (hb.mono HB7.out.size))
  have hX8 := (hb.block _ hbl).trans HX7.out
  have HX8 := Lib.hid hX8
  have HG8 := Lib.hid (HG7.out.below hb)
  replace HI1 := Lib.hid (IsSl.below HI1.out hb)
  replace HI2 := Lib.hid (IsSl.below HI2.out hb)
  replace HI3 := Lib.hid (IsSl.below HI3.out hb)
  replace hbl := lt_heap HX8.out
  replace c0 : w8.cell? ⟨w.heap.size, 0, none⟩ = some (.int .i64 n.vs) := cell_of hX8 rfl
  replace c1 : w8.cell? ⟨w.heap.size, 1, none⟩ = some (.slice A n.arcs.length c) := cell_of hX8 rfl
  clear hb hX8 CC
  clear hcz hch
  go_wp2_with fail
  go_ret
  exact ⟨rfl, HB8.out⟩
end Go.Proofs.Ytikddknhcfhnbaa
