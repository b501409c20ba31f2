/- The law FlowCheckSpec. -/
import Derived.Test.YtikddknhcfhnbaaF8
import Derived.Test.YtikddknhcfhnbaaA3
import Derived.Test.YtikddknhcfhnbaaA6
namespace Go.Proofs.Ytikddknhcfhnbaa
open Go.RowKit Go.Deep
set_option maxHeartbeats 4000000 in
set_option maxRecDepth 100000 in
theorem law3 (w : World) (M : Nat → Prop) (v : Value) (n : NetD) (h : IsNet w M v n) (M1 : Nat → Prop) (v1 : Value) (f : List Int) (h1 : IsInts w M1 v1 f) (M2 : Nat → Prop) (v2 : Value) (s : List Int) (h2 : IsInts w M2 v2 s) :
    Calls Try.prog 3 #[v, v1, v2] w fun e w' => e = .returned (.bool true) ∧ Below w.heap.size w w' := by
  have HG := Lib.hid h
  obtain ⟨va, rfl, hva⟩ := id h
  obtain ⟨A, c, rfl, -⟩ := id hva
  have HI1 := Lib.hid h1
  obtain ⟨A1, kc1, rfl, hlc1, -⟩ := id h1
  have HI2 := Lib.hid h2
  obtain ⟨A2, kc2, rfl, hlc2, -⟩ := id h2
  clear h hva h1 h2
  go_enter Try.func3, Try.ntmps3
  go_wp2_with fail
  refine nameW fun W1 hW1 => ?_
  have hB1 : Below w.heap.size w W1 := by rw [hW1.out]; exact (Below.refl w.heap.size w).alloc (Nat.le_refl _) _
  have hb1 : W1.heap[w.heap.size]? = some (.cells #[.int .i64 n.vs, .slice A n.arcs.length c] 24 (0, 0)) := by rw [hW1.out, heap_alloc_if, if_pos rfl]
  clear hW1
  refine (sane_any W1).mono ?_
  rintro e w2 ⟨rfl, hb⟩
  have hX2 := (hb.block _ (lt_heap hb1)).trans hb1
  have HX2 := Lib.hid hX2
  have HB2 := Lib.hid (hB1.trans (hb.mono hB1.size))
  have HG2 := Lib.hid (HG.out.below HB2.out)
  replace HI1 := Lib.hid (IsSl.below HI1.out HB2.out)
  replace HI2 := Lib.hid (IsSl.below HI2.out HB2.out)
  have hbl := lt_heap HX2.out
  have c0 : w2.cell? ⟨w.heap.size, 0, none⟩ = some (.int .i64 n.vs) := cell_of hX2 rfl
  have c1 : w2.cell? ⟨w.heap.size, 1, none⟩ = some (.slice A n.arcs.length c) := cell_of hX2 rfl
  clear hb hb1 hB1 hX2
  have CC := few_any w2 M _ n HG2.out
  go_wp2_with fail
  refine CC.mono ?_
  rintro e w3 ⟨rfl, hb⟩
  have HB3 := Lib.hid (HB2.out.trans (hb.mono HB2.out.size))
  have hX3 := (hb.block _ hbl).trans HX2.out
  have HX3 := Lib.hid hX3
  have HG3 := Lib.hid (HG2.out.below hb)
  replace HI1 := Lib.hid (IsSl.below HI1.out hb)
  replace HI2 := Lib.hid (IsSl.below HI2.out hb)
  replace hbl := lt_heap HX3.out
  replace c0 : w3.cell? ⟨w.heap.size, 0, none⟩ = some (.int .i64 n.vs) := cell_of hX3 rfl
  replace c1 : w3.cell? ⟨w.heap.size, 1, none⟩ = some (.slice A n.arcs.length c) := cell_of hX3 rfl
  clear hb hX3 CC
  cases hfw : fewN n
  · go_wp2_with fail
    go_ret
    exact ⟨rfl, HB3.out⟩
  by_cases hlf : 60 < f.length
  · have hlfi : (60 : Int) < (f.length : Int) := by omega
    go_wp2_with fail
    go_ret
    exact ⟨rfl, HB3.out⟩
  have hlfi : ¬ (60 : Int) < (f.length : Int) := by omega
  by_cases hls : 60 < s.length
  · have hlsi : (60 : Int) < (s.length : Int) := by omega
    go_wp2_with fail
    go_ret
    exact ⟨rfl, HB3.out⟩
  have hlsi : ¬ (60 : Int) < (s.length : Int) := by omega
  clear hfw
  obtain ⟨⟨a, b⟩, hab⟩ : ∃ x, x = valF n f := ⟨_, rfl⟩
  obtain ⟨⟨d, g⟩, hdg⟩ : ∃ x, x = capF n s := ⟨_, rfl⟩
  obtain ⟨z, hz⟩ : ∃ x, x = chkF n := ⟨_, rfl⟩
  have CC := value_any w3 _ _ _ _ n f HG3.out HI1.out
  rw [← hab] at CC
  go_wp2_with fail
  refine CC.mono ?_
  rintro e w4 ⟨rfl, hb⟩
  have HB4 := Lib.hid (HB3.out.trans (hb.mono HB3.out.size))
  have hX4 := (hb.block _ hbl).trans HX3.out
  have HX4 := Lib.hid hX4
  have HG4 := Lib.hid (HG3.out.below hb)
  replace HI1 := Lib.hid (IsSl.below HI1.out hb)
  replace HI2 := Lib.hid (IsSl.below HI2.out hb)
  replace hbl := lt_heap HX4.out
  replace c0 : w4.cell? ⟨w.heap.size, 0, none⟩ = some (.int .i64 n.vs) := cell_of hX4 rfl
  replace c1 : w4.cell? ⟨w.heap.size, 1, none⟩ = some (.slice A n.arcs.length c) := cell_of hX4 rfl
  clear hb hX4 CC
  have CC := rvalue_any w4 _ _ _ _ n f HG4.out HI1.out
  rw [← hab] at CC
  go_wp2_with fail
  refine CC.mono ?_
  rintro e w5 ⟨rfl, hb⟩
  have HB5 := Lib.hid (HB4.out.trans (hb.mono HB4.out.size))
  have hX5 := (hb.block _ hbl).trans HX4.out
  have HX5 := Lib.hid hX5
  have HG5 := Lib.hid (HG4.out.below hb)
  replace HI1 := Lib.hid (IsSl.below HI1.out hb)
  replace HI2 := Lib.hid (IsSl.below HI2.out hb)
  replace hbl := lt_heap HX5.out
  replace c0 : w5.cell? ⟨w.heap.size, 0, none⟩ = some (.int .i64 n.vs) := cell_of hX5 rfl
  replace c1 : w5.cell? ⟨w.heap.size, 1, none⟩ = some (.slice A n.arcs.length c) := cell_of hX5 rfl
  clear hb hX5 CC
  have CC := cap_any w5 _ _ _ _ n s HG5.out HI2.out (by omega)
  rw [← hdg] at CC
  go_wp2_with fail
  refine CC.mono ?_
  rintro e w6 ⟨rfl, hb⟩
  have HB6 := Lib.hid (HB5.out.trans (hb.mono HB5.out.size))
  have hX6 := (hb.block _ hbl).trans HX5.out
  have HX6 := Lib.hid hX6
  have HG6 := Lib.hid (HG5.out.below hb)
  replace HI1 := Lib.hid (IsSl.below HI1.out hb)
  replace HI2 := Lib.hid (IsSl.below HI2.out hb)
  replace hbl := lt_heap HX6.out
  replace c0 : w6.cell? ⟨w.heap.size, 0, none⟩ = some (.int .i64 n.vs) := cell_of hX6 rfl
  replace c1 : w6.cell? ⟨w.heap.size, 1, none⟩ = some (.slice A n.arcs.length c) := cell_of hX6 rfl
  clear hb hX6 CC
  have CC := rcap_any w6 _ _ _ _ n s HG6.out HI2.out
  rw [← hdg] at CC
  go_wp2_with fail
  refine CC.mono ?_
  rintro e w7 ⟨rfl, hb⟩
  have HB7 := Lib.hid (HB6.out.trans (hb.mono HB6.out.size))
  have hX7 := (hb.block _ hbl).trans HX6.out
  have HX7 := Lib.hid hX7
  have HG7 := Lib.hid (HG6.out.below hb)
  replace HI1 := Lib.hid (IsSl.below HI1.out hb)
  replace HI2 := Lib.hid (IsSl.below HI2.out hb)
  replace hbl := lt_heap HX7.out
  replace c0 : w7.cell? ⟨w.heap.size, 0, none⟩ = some (.int .i64 n.vs) := cell_of hX7 rfl
  replace c1 : w7.cell? ⟨w.heap.size, 1, none⟩ = some (.slice A n.arcs.length c) := cell_of hX7 rfl
  clear hb hX7 CC
  have C1 := fun W hb => Lib.hid (fcheck_any W M _ n (HG7.out.below hb))
  have C2 := fun W hb => Lib.hid (rcheck_any W M _ n (HG7.out.below hb))
  rw [← hz] at C1 C2
  clear hab hdg hz hlf hlfi hls hlsi
  have hzz : (z == z) = true := by simp
  have haa : (a == a) = true := by simp
  have hbb : (b == b) = true := by simp
  have hdd : (d == d) = true := by simp
  have hgg : (g == g) = true := by simp
  go_wp2_with fail
  go_region_held3 (fun w' => w'.cell? ⟨w.heap.size, 0, none⟩ = some (.int .i64 n.vs) ∧ w'.cell? ⟨w.heap.size, 1, none⟩ = some (.slice A n.arcs.length c)) (first | with_reducible exact ⟨c0, c1⟩ | with_reducible exact ⟨s0, s1⟩ | go_keep) (first | (go_at_call 16; refine (C1 _ (by repeat (first | with_reducible exact Below.refl _ _ | with_reducible exact HB9.out | (with_reducible refine Below.drew ?_)))).out.mono ?_; rintro e w9 ⟨rfl, hb9⟩; have HB9 : Hid (Below w7.heap.size w7 w9) := Below.trans (by repeat (first | with_reducible exact Below.refl _ _ | with_reducible exact HB9.out | (with_reducible refine Below.drew ?_))) (hb9.mono (by first | exact Nat.le_refl _ | exact HB9.out.size | (simp; done) | (simp; exact HB9.out.size))); have s0 : w9.cell? ⟨w.heap.size, 0, none⟩ = some (.int .i64 n.vs) := (HB9.out.cell (p := ⟨w.heap.size, 0, none⟩) hbl).trans c0; have s1 : w9.cell? ⟨w.heap.size, 1, none⟩ = some (.slice A n.arcs.length c) := (HB9.out.cell (p := ⟨w.heap.size, 1, none⟩) hbl).trans c1; clear hb9) | (go_at_call 17; refine (C2 _ (by repeat (first | with_reducible exact Below.refl _ _ | with_reducible exact HB9.out | (with_reducible refine Below.drew ?_)))).out.mono ?_; rintro e w9 ⟨rfl, hb9⟩; have HB9 : Hid (Below w7.heap.size w7 w9) := Below.trans (by repeat (first | with_reducible exact Below.refl _ _ | with_reducible exact HB9.out | (with_reducible refine Below.drew ?_))) (hb9.mono (by first | exact Nat.le_refl _ | exact HB9.out.size | (simp; done) | (simp; exact HB9.out.size))); have s0 : w9.cell? ⟨w.heap.size, 0, none⟩ = some (.int .i64 n.vs) := (HB9.out.cell (p := ⟨w.heap.size, 0, none⟩) hbl).trans c0; have s1 : w9.cell? ⟨w.heap.size, 1, none⟩ = some (.slice A n.arcs.length c) := (HB9.out.cell (p := ⟨w.heap.size, 1, none⟩) hbl).trans c1; clear hb9))
  all_goals
    go_wp2_with fail
    go_ret
    exact ⟨rfl, HB7.out.trans (Below.mono (by repeat (first | with_reducible exact HB9.out | (with_reducible refine Below.drew ?_))) HB7.out.size)⟩
end Go.Proofs.Ytikddknhcfhnbaa
