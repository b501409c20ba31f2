/- The law BeaconAddSpec. -/
import Derived.Test.YtgaanndidcdbpaaGreatU7
import Derived.Test.YtgaanndidcdbpaaGreatU10
import Derived.Test.YtgaanndidcdbpaaGreatU11
import Derived.Test.YtgaanndidcdbpaaGreatU12
import Derived.Test.YtgaanndidcdbpaaGreatZM
import Derived.BigQuiet
namespace Go.Proofs.YtgaanndidcdbpaaGreat
open Go.RowKit Go.Shelf

/-- not longer than memory -/
def SameOk (a : BeaD) : Prop := a.clubs.length ≤ 100000 ∧ a.coms.length ≤ 1000 ∧ ∀ i, i < a.coms.length → (comN a.coms i).checks.length ≤ 140737488355328
theorem SameOk.zero : SameOk bea0 := ⟨by simp [bea0], by simp [bea0], fun i hi => absurd hi (by simp [bea0])⟩
theorem SameOk.of {b : BeaD} (h : SmallB b) : SameOk b := ⟨Nat.le_trans h.cl (by decide), h.co, fun i hi => (h.chW i hi).2⟩
theorem SameOk.new {b : BeaD} (h : SmallB b) : SameOk (newD b.clubs b.thr b.rng).1 := by
  unfold newD
  split
  · exact ⟨Nat.le_trans h.cl (by decide), by simp, fun i hi => absurd hi (by simp)⟩
  · exact SameOk.zero
theorem SameOk.com {b : BeaD} {c : ComD} (h : SmallB b) (hl : b.coms.length ≤ 7) (hc : c.checks.length ≤ 140737488355328) : SameOk (commitD b c).1 := by
  unfold commitD
  split
  · split
    · exact SameOk.zero
    · refine ⟨Nat.le_trans h.cl (by decide), by simp; omega, fun i hi => ?_⟩
      have hi' : i < b.coms.length + 1 := by simpa using hi
      show (comN (b.coms ++ [c]) i).checks.length ≤ _
      rcases Nat.lt_or_ge i b.coms.length with q | q
      · rw [show comN (b.coms ++ [c]) i = comN b.coms i by unfold comN; rw [List.getD_eq_getElem?_getD, List.getElem?_append_left q, List.getD_eq_getElem?_getD]]
        exact (h.chW i q).2
      · obtain rfl : i = b.coms.length := by omega
        rw [show comN (b.coms ++ [c]) b.coms.length = c by unfold comN; rw [List.getD_eq_getElem?_getD, List.getElem?_append_right (Nat.le_refl _)]; simp]
        exact hc
  · exact SameOk.zero
theorem SameOk.rev {b : BeaD} {r : RevD} (h : SmallB b) : SameOk (revealD b r).1 := by
  unfold revealD
  split
  · split
    · exact SameOk.zero
    · split
      · exact ⟨(SameOk.of h).1, (SameOk.of h).2.1, (SameOk.of h).2.2⟩
      · exact SameOk.zero
  · exact SameOk.zero
theorem SameOk.opn {b : BeaD} {o : OpnD} (h : SmallB b) : SameOk (openD b o).1 := by
  unfold openD
  split
  · split
    · exact SameOk.zero
    · split
      · exact ⟨(SameOk.of h).1, (SameOk.of h).2.1, (SameOk.of h).2.2⟩
      · exact SameOk.zero
  · exact SameOk.zero
set_option maxRecDepth 100000 in
set_option maxHeartbeats 8000000 in
theorem law1 (w : World) (M M' : Nat → Prop) (v u : Value) (b : BeaD) (c : ComD) (r : RevD) (o : OpnD) (hb : IsBea w M v b) (hz : SizedB b) (hc : IsCom w M' u c) (hcw : W64 c.club ∧ U64s c.checks ∧ c.checks.length ≤ 140737488355328) (hrw : W64 r.club ∧ r.num < 18446744073709551616) (how : W64 o.club ∧ W64 o.frm ∧ o.sh.1 < 18446744073709551616 ∧ o.sh.2 < 18446744073709551616) :
    Calls Tryz.prog 3 #[v, u, .agg #[.int .i64 r.club, .int .u64 (r.num : Int)], .agg #[.int .i64 o.club, .int .i64 o.frm, .int .u64 (o.sh.1 : Int), .int .u64 (o.sh.2 : Int)]] w (RetT true w) := by
  have HBE := Lib.hid (IsBea.mono (M' := fun q => q < w.heap.size) hb (fun q h _ => h))
  obtain ⟨uv, rfl, hu⟩ := hc
  have HU := Lib.hid (IsSl.mono (M' := fun q => q < w.heap.size) hu (fun q h _ => h) (by omega))
  obtain ⟨uA, uc, rfl, -⟩ := hu
  obtain ⟨cA, cc, kA, kc, rA, rc, oA, oc, rfl, i1, -⟩ := hb.parts
  have HI1 := Lib.hid i1
  have HZ := Lib.hid hz
  have HCW := Lib.hid hcw
  have HRW := Lib.hid hrw
  have HOW := Lib.hid how
  clear hb hz hcw hrw how i1
  go_enter Tryz.func3, Tryz.ntmps3
  go_wp2_with fail
  refine nameW fun W1 hW1 => ?_
  have hb1 : Below w.heap.size w W1 := by rw [hW1.out]; exact ((((Below.refl _ _).alloc (Nat.le_refl _) _).alloc (by simp) _).alloc (by simp; omega) _).alloc (by simp; omega) _
  have k0 : W1.heap[w.heap.size]? = some (.cells #[.slice cA b.clubs.length cc, .int .i64 b.thr, .int .u64 (b.rng : Int), .slice kA b.coms.length kc, .slice rA b.revs.length rc, .slice oA b.opns.length oc] 28 (0, 0)) := by rw [hW1.out]; simp only [heap_alloc_if, World.size_alloc]; rw [if_neg (by omega)]; rw [if_neg (by omega)]; rw [if_neg (by omega)]; rw [if_pos trivial]
  have k1 : W1.heap[w.heap.size + 1]? = some (.cells #[.int .i64 c.club, .slice uA c.checks.length uc] 31 (0, 0)) := by rw [hW1.out]; simp only [heap_alloc_if, World.size_alloc]; rw [if_neg (by omega)]; rw [if_neg (by omega)]; rw [if_pos trivial]
  have k2 : W1.heap[w.heap.size + 1 + 1]? = some (.cells #[.int .i64 r.club, .int .u64 (r.num : Int)] 33 (0, 0)) := by rw [hW1.out]; simp only [heap_alloc_if, World.size_alloc]; rw [if_neg (by omega)]; rw [if_pos trivial]
  have k3 : W1.heap[w.heap.size + 1 + 1 + 1]? = some (.cells #[.int .i64 o.club, .int .i64 o.frm, .int .u64 (o.sh.1 : Int), .int .u64 (o.sh.2 : Int)] 37 (0, 0)) := by rw [hW1.out]; simp only [heap_alloc_if, World.size_alloc]; rw [if_pos trivial]
  obtain ⟨B3, hB3⟩ : ∃ B, B = w.heap.size + 1 + 1 + 1 := ⟨_, rfl⟩
  rw [← hB3] at k3 ⊢
  clear hB3
  obtain ⟨B2, hB2⟩ : ∃ B, B = w.heap.size + 1 + 1 := ⟨_, rfl⟩
  rw [← hB2] at k2 ⊢
  clear hB2
  obtain ⟨B1, hB1⟩ : ∃ B, B = w.heap.size + 1 := ⟨_, rfl⟩
  rw [← hB1] at k1 ⊢
  clear hB1
  have HC := Lib.hid (show ∀ W', Below W1.heap.size W1 W' → (W'.cell? ⟨w.heap.size, 0, none⟩ = some (.slice cA b.clubs.length cc) ∧ W'.cell? ⟨w.heap.size, 1, none⟩ = some (.int .i64 b.thr) ∧ W'.cell? ⟨w.heap.size, 2, none⟩ = some (.int .u64 (b.rng : Int)) ∧ W'.cell? ⟨w.heap.size, 3, none⟩ = some (.slice kA b.coms.length kc) ∧ W'.cell? ⟨w.heap.size, 4, none⟩ = some (.slice rA b.revs.length rc) ∧ W'.cell? ⟨w.heap.size, 5, none⟩ = some (.slice oA b.opns.length oc) ∧ W'.cell? ⟨B1, 0, none⟩ = some (.int .i64 c.club) ∧ W'.cell? ⟨B1, 1, none⟩ = some (.slice uA c.checks.length uc) ∧ W'.cell? ⟨B2, 0, none⟩ = some (.int .i64 r.club) ∧ W'.cell? ⟨B2, 1, none⟩ = some (.int .u64 (r.num : Int)) ∧ W'.cell? ⟨B3, 0, none⟩ = some (.int .i64 o.club) ∧ W'.cell? ⟨B3, 1, none⟩ = some (.int .i64 o.frm) ∧ W'.cell? ⟨B3, 2, none⟩ = some (.int .u64 (o.sh.1 : Int)) ∧ W'.cell? ⟨B3, 3, none⟩ = some (.int .u64 (o.sh.2 : Int))) from fun W' h => by
    have e0 := (h.block _ (lt_heap k0)).trans k0
    have e1 := (h.block _ (lt_heap k1)).trans k1
    have e2 := (h.block _ (lt_heap k2)).trans k2
    have e3 := (h.block _ (lt_heap k3)).trans k3
    exact ⟨cell_of e0 rfl, cell_of e0 rfl, cell_of e0 rfl, cell_of e0 rfl, cell_of e0 rfl, cell_of e0 rfl, cell_of e1 rfl, cell_of e1 rfl, cell_of e2 rfl, cell_of e2 rfl, cell_of e3 rfl, cell_of e3 rfl, cell_of e3 rfl, cell_of e3 rfl⟩)
  have HB1 := Lib.hid hb1
  have HB : Hid (Below W1.heap.size W1 W1) := Lib.hid (Below.refl _ _)
  clear hW1 hb1 k0 k1 k2 k3
  obtain ⟨c0_0, c0_1, c0_2, c0_3, c0_4, c0_5, c1_0, c1_1, c2_0, c2_1, c3_0, c3_1, c3_2, c3_3⟩ := HC.out _ HB.out
  refine (sane_any _).mono ?_
  rintro e W9 ⟨rfl, hb⟩
  have HBn : Hid (Below W1.heap.size W1 W9) := Lib.hid ((show Below W1.heap.size W1 _ from (by repeat (first | with_reducible exact Below.refl _ _ | with_reducible exact HB.out | (with_reducible refine Below.drew ?_)))).trans (hb.mono (show W1.heap.size ≤ _ from (show Below W1.heap.size W1 _ from (by repeat (first | with_reducible exact Below.refl _ _ | with_reducible exact HB.out | (with_reducible refine Below.drew ?_)))).size)))
  clear hb HB c0_0 c0_1 c0_2 c0_3 c0_4 c0_5 c1_0 c1_1 c2_0 c2_1 c3_0 c3_1 c3_2 c3_3
  have HB := HBn
  clear HBn
  obtain ⟨c0_0, c0_1, c0_2, c0_3, c0_4, c0_5, c1_0, c1_1, c2_0, c2_1, c3_0, c3_1, c3_2, c3_3⟩ := HC.out _ HB.out
  have D1 := Lib.hid (fun (W' : World) (h : Below W1.heap.size W1 W') => Few_any W' _ _ b (HBE.out.below (HB1.out.trans (h.mono HB1.out.size))))
  obtain ⟨zf, hzf⟩ : ∃ z, z = FewD b := ⟨_, rfl⟩
  rw [← hzf] at D1
  have HZF := Lib.hid hzf
  clear hzf
  go_wp2_with fail
  refine (D1.out _ (by repeat (first | with_reducible exact Below.refl _ _ | with_reducible exact HB.out | (with_reducible refine Below.drew ?_)))).mono ?_
  rintro e W9 ⟨rfl, hb⟩
  have HBn : Hid (Below W1.heap.size W1 W9) := Lib.hid ((show Below W1.heap.size W1 _ from (by repeat (first | with_reducible exact Below.refl _ _ | with_reducible exact HB.out | (with_reducible refine Below.drew ?_)))).trans (hb.mono (show W1.heap.size ≤ _ from (show Below W1.heap.size W1 _ from (by repeat (first | with_reducible exact Below.refl _ _ | with_reducible exact HB.out | (with_reducible refine Below.drew ?_)))).size)))
  clear hb HB c0_0 c0_1 c0_2 c0_3 c0_4 c0_5 c1_0 c1_1 c2_0 c2_1 c3_0 c3_1 c3_2 c3_3
  have HB := HBn
  clear HBn
  obtain ⟨c0_0, c0_1, c0_2, c0_3, c0_4, c0_5, c1_0, c1_1, c2_0, c2_1, c3_0, c3_1, c3_2, c3_3⟩ := HC.out _ HB.out
  by_cases hf : zf = true
  case neg =>
    rw [show zf = false by simpa using hf]
    clear hf
    go_wp2_with fail
    go_ret
    exact ⟨rfl, HB1.out.trans ((show Below W1.heap.size W1 _ from (by repeat (first | with_reducible exact Below.refl _ _ | with_reducible exact HB.out | (with_reducible refine Below.drew ?_)))).mono HB1.out.size)⟩
  have HSM := Lib.hid (small_few (HZF.out.symm.trans hf) HZ.out)
  have HFL := Lib.hid (FewD_len (HZF.out.symm.trans hf))
  rw [hf]
  clear hf HZF D1
  by_cases h8 : c.checks.length ≤ 8
  case neg =>
    have h8b : (8 : Int) < (c.checks.length : Int) := by omega
    clear h8
    go_wp2_with fail
    go_ret
    exact ⟨rfl, HB1.out.trans ((show Below W1.heap.size W1 _ from (by repeat (first | with_reducible exact Below.refl _ _ | with_reducible exact HB.out | (with_reducible refine Below.drew ?_)))).mono HB1.out.size)⟩
  have h8b : ¬ (8 : Int) < (c.checks.length : Int) := by omega
  clear h8
  have hWw : w.heap.size ≤ W1.heap.size := HB1.out.size
  obtain ⟨x0, hx⟩ : ∃ z, z = newD b.clubs b.thr b.rng := ⟨_, rfl⟩
  have D4 := Lib.hid (show ∀ W', Below W1.heap.size W1 W' → Calls Tryz.prog 7 _ W' (BeaE W' (fun q => q < w.heap.size ∨ W'.heap.size ≤ q) x0) from fun W' h => by
    rw [hx]
    exact (new_any W' _ _ b.clubs b.thr b.rng (IsSl.below HI1.out (HB1.out.trans (h.mono HB1.out.size)))).mono fun e w' ⟨v, q1, q2, q3⟩ => ⟨v, q1, IsBea.mono q2 (fun q _ hq => by first | exact Or.inr hq | (rcases hq with hq | hq | hq <;> (first | exact Or.inl hq | exact Or.inr hq)) | (rcases hq with hq | hq <;> (first | exact Or.inl hq | exact Or.inr hq))), q3⟩)
  have D5 := Lib.hid (show ∀ W', Below W1.heap.size W1 W' → Calls Tryz.prog 8 _ W' (BeaE W' (fun q => q < w.heap.size ∨ W'.heap.size ≤ q) x0) from fun W' h => by
    rw [hx]
    exact (rnew_any W' _ _ b.clubs b.thr b.rng (IsSl.below HI1.out (HB1.out.trans (h.mono HB1.out.size))) HSM.out.cl).mono fun e w' ⟨v, q1, q2, q3⟩ => ⟨v, q1, IsBea.mono q2 (fun q _ hq => by first | exact Or.inr hq | (rcases hq with hq | hq | hq <;> (first | exact Or.inl hq | exact Or.inr hq)) | (rcases hq with hq | hq <;> (first | exact Or.inl hq | exact Or.inr hq))), q3⟩)
  have HOK0 := Lib.hid (show SameOk x0.1 by rw [hx]; exact SameOk.new HSM.out)
  clear hx
  have tE0 : (x0.2 != x0.2) = false := by simp
  have tQ0 : (x0.2 == x0.2) = true := by simp
  go_wp2_with fail
  refine (D4.out _ (by repeat (first | with_reducible exact Below.refl _ _ | with_reducible exact HB.out | (with_reducible refine Below.drew ?_)))).mono ?_
  rintro e W9 ⟨bv, rfl, hbv, hb⟩
  have HBn : Hid (Below W1.heap.size W1 W9) := Lib.hid ((show Below W1.heap.size W1 _ from (by repeat (first | with_reducible exact Below.refl _ _ | with_reducible exact HB.out | (with_reducible refine Below.drew ?_)))).trans (hb.mono (show W1.heap.size ≤ _ from (show Below W1.heap.size W1 _ from (by repeat (first | with_reducible exact Below.refl _ _ | with_reducible exact HB.out | (with_reducible refine Below.drew ?_)))).size)))
  clear hb HB c0_0 c0_1 c0_2 c0_3 c0_4 c0_5 c1_0 c1_1 c2_0 c2_1 c3_0 c3_1 c3_2 c3_3
  have HB := HBn
  clear HBn
  obtain ⟨c0_0, c0_1, c0_2, c0_3, c0_4, c0_5, c1_0, c1_1, c2_0, c2_1, c3_0, c3_1, c3_2, c3_3⟩ := HC.out _ HB.out
  obtain ⟨pa0A, pa0c, qa0A, qa0c, sa0A, sa0c, ta0A, ta0c, rfl, -⟩ := hbv.parts
  have HV := Lib.hid (IsBea.mono (M' := TT) hbv (fun _ _ _ => trivial))
  clear hbv D4 c0_0 c0_1 c0_2 c0_3 c0_4 c0_5 c1_0 c1_1 c2_0 c2_1 c3_0 c3_1 c3_2 c3_3
  go_upto_region 6 with fail
  refine nameC fun V00 hW => ?_
  have hbn : Below W9.heap.size W9 V00 := by rw [hW.out]; exact (Below.refl _ _).alloc (Nat.le_refl _) _
  have GN := Lib.hid (show V00.heap[W9.heap.size]? = some (.cells #[.slice pa0A x0.1.clubs.length pa0c, .int .i64 x0.1.thr, .int .u64 (x0.1.rng : Int), .slice qa0A x0.1.coms.length qa0c, .slice sa0A x0.1.revs.length sa0c, .slice ta0A x0.1.opns.length ta0c] 28 (0, 0)) by rw [hW.out]; exact heap_alloc_new _ _)
  obtain ⟨gx, hg⟩ : ∃ g, g = W9.heap.size := ⟨_, rfl⟩
  have hgx : W1.heap.size ≤ gx := by rw [hg]; exact HB.out.size
  rw [← hg] at GN ⊢
  replace HV := Lib.hid (HV.out.below hbn)
  replace HB := Lib.hid (HB.out.trans (hbn.mono HB.out.size))
  clear hW hbn hg
  have HBwV00 : Hid (Below V00.heap.size V00 V00) := Lib.hid (Below.refl _ _)
  have HK0 := Lib.hid (show ∀ W', Below V00.heap.size V00 W' → W'.heap[gx]? = some (.cells #[.slice pa0A x0.1.clubs.length pa0c, .int .i64 x0.1.thr, .int .u64 (x0.1.rng : Int), .slice qa0A x0.1.coms.length qa0c, .slice sa0A x0.1.revs.length sa0c, .slice ta0A x0.1.opns.length ta0c] 28 (0, 0)) ∧ IsBea W' TT (.agg #[.slice pa0A x0.1.clubs.length pa0c, .int .i64 x0.1.thr, .int .u64 (x0.1.rng : Int), .slice qa0A x0.1.coms.length qa0c, .slice sa0A x0.1.revs.length sa0c, .slice ta0A x0.1.opns.length ta0c]) x0.1 from fun W' h => ⟨(h.block _ (lt_heap GN.out)).trans GN.out, HV.out.below h⟩)
  clear GN HV
  obtain ⟨c0_0, c0_1, c0_2, c0_3, c0_4, c0_5, c1_0, c1_1, c2_0, c2_1, c3_0, c3_1, c3_2, c3_3⟩ := HC.out _ HB.out
  go_wp2_with fail
  refine (D5.out _ (by repeat (first | with_reducible exact Below.refl _ _ | with_reducible exact HB.out | (with_reducible refine Below.drew ?_)))).mono ?_
  rintro e W9 ⟨bv, rfl, hbv, hb⟩
  have HBn : Hid (Below W1.heap.size W1 W9) := Lib.hid ((show Below W1.heap.size W1 _ from (by repeat (first | with_reducible exact Below.refl _ _ | with_reducible exact HB.out | (with_reducible refine Below.drew ?_)))).trans (hb.mono (show W1.heap.size ≤ _ from (show Below W1.heap.size W1 _ from (by repeat (first | with_reducible exact Below.refl _ _ | with_reducible exact HB.out | (with_reducible refine Below.drew ?_)))).size)))
  replace HBwV00 : Hid (Below V00.heap.size V00 W9) := Lib.hid ((show Below V00.heap.size V00 _ from (by repeat (first | with_reducible exact Below.refl _ _ | with_reducible exact HBwV00.out | (with_reducible refine Below.drew ?_)))).trans (hb.mono (show V00.heap.size ≤ _ from (show Below V00.heap.size V00 _ from (by repeat (first | with_reducible exact Below.refl _ _ | with_reducible exact HBwV00.out | (with_reducible refine Below.drew ?_)))).size)))
  clear hb HB c0_0 c0_1 c0_2 c0_3 c0_4 c0_5 c1_0 c1_1 c2_0 c2_1 c3_0 c3_1 c3_2 c3_3
  have HB := HBn
  clear HBn
  obtain ⟨c0_0, c0_1, c0_2, c0_3, c0_4, c0_5, c1_0, c1_1, c2_0, c2_1, c3_0, c3_1, c3_2, c3_3⟩ := HC.out _ HB.out
  obtain ⟨pb0A, pb0c, qb0A, qb0c, sb0A, sb0c, tb0A, tb0c, rfl, -⟩ := hbv.parts
  have HV := Lib.hid (IsBea.mono (M' := TT) hbv (fun _ _ _ => trivial))
  clear hbv D5 c0_0 c0_1 c0_2 c0_3 c0_4 c0_5 c1_0 c1_1 c2_0 c2_1 c3_0 c3_1 c3_2 c3_3
  go_upto_region 7 with fail
  refine nameC fun V01 hW => ?_
  have hbn : Below W9.heap.size W9 V01 := by rw [hW.out]; exact (Below.refl _ _).alloc (Nat.le_refl _) _
  have GN := Lib.hid (show V01.heap[W9.heap.size]? = some (.cells #[.slice pb0A x0.1.clubs.length pb0c, .int .i64 x0.1.thr, .int .u64 (x0.1.rng : Int), .slice qb0A x0.1.coms.length qb0c, .slice sb0A x0.1.revs.length sb0c, .slice tb0A x0.1.opns.length tb0c] 28 (0, 0)) by rw [hW.out]; exact heap_alloc_new _ _)
  obtain ⟨gy, hg⟩ : ∃ g, g = W9.heap.size := ⟨_, rfl⟩
  have hgy : W1.heap.size ≤ gy := by rw [hg]; exact HB.out.size
  rw [← hg] at GN ⊢
  replace HV := Lib.hid (HV.out.below hbn)
  have hxyl : gx < gy := by
    have h1 := lt_heap (HK0.out V00 (Below.refl _ _)).1
    have h2 := HBwV00.out.size
    omega
  replace HB := Lib.hid (HB.out.trans (hbn.mono HB.out.size))
  replace HBwV00 := Lib.hid (HBwV00.out.trans (hbn.mono HBwV00.out.size))
  clear hW hbn hg
  have HBwV01 : Hid (Below V01.heap.size V01 V01) := Lib.hid (Below.refl _ _)
  have HK1 := Lib.hid (show ∀ W', Below V01.heap.size V01 W' → W'.heap[gy]? = some (.cells #[.slice pb0A x0.1.clubs.length pb0c, .int .i64 x0.1.thr, .int .u64 (x0.1.rng : Int), .slice qb0A x0.1.coms.length qb0c, .slice sb0A x0.1.revs.length sb0c, .slice tb0A x0.1.opns.length tb0c] 28 (0, 0)) ∧ IsBea W' TT (.agg #[.slice pb0A x0.1.clubs.length pb0c, .int .i64 x0.1.thr, .int .u64 (x0.1.rng : Int), .slice qb0A x0.1.coms.length qb0c, .slice sb0A x0.1.revs.length sb0c, .slice tb0A x0.1.opns.length tb0c]) x0.1 from fun W' h => ⟨(h.block _ (lt_heap GN.out)).trans GN.out, HV.out.below h⟩)
  clear GN HV
  obtain ⟨c0_0, c0_1, c0_2, c0_3, c0_4, c0_5, c1_0, c1_1, c2_0, c2_1, c3_0, c3_1, c3_2, c3_3⟩ := HC.out _ HB.out
  have hxy : gx ≠ gy := by omega
  have GX := Lib.hid (HK0.out V01 HBwV00.out).1
  have GY := Lib.hid (HK1.out V01 (Below.refl _ _)).1
  have HVX := Lib.hid (HK0.out V01 HBwV00.out).2
  have HVY := Lib.hid (HK1.out V01 (Below.refl _ _)).2
  clear HK0 HK1 HBwV00
  have HF := Lib.hid (show ∀ W', Below V01.heap.size V01 W' → (W'.cell? ⟨gx, 0, none⟩ = some (.slice pa0A x0.1.clubs.length pa0c) ∧ W'.cell? ⟨gx, 1, none⟩ = some (.int .i64 x0.1.thr) ∧ W'.cell? ⟨gx, 2, none⟩ = some (.int .u64 (x0.1.rng : Int)) ∧ W'.cell? ⟨gx, 3, none⟩ = some (.slice qa0A x0.1.coms.length qa0c) ∧ W'.cell? ⟨gx, 4, none⟩ = some (.slice sa0A x0.1.revs.length sa0c) ∧ W'.cell? ⟨gx, 5, none⟩ = some (.slice ta0A x0.1.opns.length ta0c) ∧ W'.cell? ⟨gy, 0, none⟩ = some (.slice pb0A x0.1.clubs.length pb0c) ∧ W'.cell? ⟨gy, 1, none⟩ = some (.int .i64 x0.1.thr) ∧ W'.cell? ⟨gy, 2, none⟩ = some (.int .u64 (x0.1.rng : Int)) ∧ W'.cell? ⟨gy, 3, none⟩ = some (.slice qb0A x0.1.coms.length qb0c) ∧ W'.cell? ⟨gy, 4, none⟩ = some (.slice sb0A x0.1.revs.length sb0c) ∧ W'.cell? ⟨gy, 5, none⟩ = some (.slice tb0A x0.1.opns.length tb0c)) from fun W' h => by
    have e0 := (h.block _ (lt_heap GX.out)).trans GX.out
    have e1 := (h.block _ (lt_heap GY.out)).trans GY.out
    exact ⟨cell_of e0 rfl, cell_of e0 rfl, cell_of e0 rfl, cell_of e0 rfl, cell_of e0 rfl, cell_of e0 rfl, cell_of e1 rfl, cell_of e1 rfl, cell_of e1 rfl, cell_of e1 rfl, cell_of e1 rfl, cell_of e1 rfl⟩)
  have D6 := Lib.hid (fun (W' : World) (h : Below V01.heap.size V01 W') => Lib.hid (rsame_any W' _ _ _ _ x0.1 (HVX.out.below h) (HVY.out.below h) HOK0.out))
  obtain ⟨ck, hck⟩ : ∃ z, z = chkD b := ⟨_, rfl⟩
  have D7 := Lib.hid (show ∀ W', Below V01.heap.size V01 W' → Hid (Calls Tryz.prog 10 _ W' (RetE ck W')) from fun W' h => Lib.hid (by
    have y := bcheck_any W' _ _ b (HBE.out.below (HB1.out.trans ((HB.out.trans (h.mono HB.out.size)).mono HB1.out.size))) HSM.out
    rw [← hck] at y; exact y))
  have D8 := Lib.hid (show ∀ W', Below V01.heap.size V01 W' → Hid (Calls Tryz.prog 11 _ W' (RetE ck W')) from fun W' h => Lib.hid (by
    have y := rcheck_any W' _ _ b (HBE.out.below (HB1.out.trans ((HB.out.trans (h.mono HB.out.size)).mono HB1.out.size))) HSM.out
    rw [← hck] at y; exact y))
  have HC7 := Lib.hid (show ∀ W', Below V01.heap.size V01 W' → (W'.cell? ⟨w.heap.size, 0, none⟩ = some (.slice cA b.clubs.length cc) ∧ W'.cell? ⟨w.heap.size, 1, none⟩ = some (.int .i64 b.thr) ∧ W'.cell? ⟨w.heap.size, 2, none⟩ = some (.int .u64 (b.rng : Int)) ∧ W'.cell? ⟨w.heap.size, 3, none⟩ = some (.slice kA b.coms.length kc) ∧ W'.cell? ⟨w.heap.size, 4, none⟩ = some (.slice rA b.revs.length rc) ∧ W'.cell? ⟨w.heap.size, 5, none⟩ = some (.slice oA b.opns.length oc)) from fun W' h => by
    obtain ⟨q0, q1, q2, q3, q4, q5, -⟩ := HC.out W' (HB.out.trans (h.mono HB.out.size))
    exact ⟨q0, q1, q2, q3, q4, q5⟩)
  have tC : (ck != ck) = false := by simp
  clear hck c0_0 c0_1 c0_2 c0_3 c0_4 c0_5 c1_0 c1_1 c2_0 c2_1 c3_0 c3_1 c3_2 c3_3
  go_upto_region 7 with fail
  go_cut [59] (fun s59 W => s59 = .bool false ∧ Hid (Below V01.heap.size V01 W))
  case first =>
    refine anyL_begin (z := 15) (S := fun W9 => Below V01.heap.size V01 W9) (by kernel_rfl) (Below.drew (Below.refl _ _)) (fun hHeld => ?_)
    refine AnyL.takeD (i := 0) (d := some 44) (v := ?_) rfl rfl (by kernel_rfl) (by kernel_rfl) (fun _ _ _ h => h) (by kernel_rfl) (by kernel_rfl) (by kernel_rfl) (Or.inl ⟨by rfl, ?_⟩) hHeld ?_
    rotate_left 1
    focus (intro w hSw; (try dsimp only at hSw); obtain ⟨a0, a1, a2, a3, a4, a5, b0, b1, b2, b3, b4, b5⟩ := HF.out w hSw; obtain ⟨c0, c1, c2, c3, c4, c5⟩ := HC7.out w hSw; go_simp; (try with_reducible rfl))
    (repeat (first | simp only [Act.put] | simp only [List.setIfInBounds_toArray] | simp only [List.set_cons_zero] | simp only [List.set_cons_succ]))
    refine AnyL.takeD (i := 1) (d := some 45) (v := ?_) rfl rfl (by kernel_rfl) (by kernel_rfl) (fun _ _ _ h => h) (by kernel_rfl) (by kernel_rfl) (by kernel_rfl) (Or.inl ⟨by rfl, ?_⟩) hHeld ?_
    rotate_left 1
    focus (intro w hSw; (try dsimp only at hSw); obtain ⟨a0, a1, a2, a3, a4, a5, b0, b1, b2, b3, b4, b5⟩ := HF.out w hSw; obtain ⟨c0, c1, c2, c3, c4, c5⟩ := HC7.out w hSw; go_simp; (try with_reducible rfl))
    (repeat (first | simp only [Act.put] | simp only [List.setIfInBounds_toArray] | simp only [List.set_cons_zero] | simp only [List.set_cons_succ]))
    refine AnyL.one (i := 2) (by kernel_rfl) rfl (fun K hK => ?_)
    go_simp
    go_at_call 9
    refine ((D6.out _ (Below.drew (Below.refl _ _))).out).mono ?_
    rintro e w7 ⟨rfl, hb7⟩
    have HB2 : Hid (Below V01.heap.size V01 w7) := Lib.hid ((show Below V01.heap.size V01 _ from (Below.drew (Below.refl _ _))).trans (hb7.mono (show Below V01.heap.size V01 _ from (Below.drew (Below.refl _ _))).size))
    clear hb7
    refine hK.out _ _ (fun _ => HB2.out) (fun hHeld => ?_)
    replace hHeld := hHeld (by kernel_rfl)
    clear hK K
    (repeat (first | simp only [Act.put] | simp only [List.setIfInBounds_toArray] | simp only [List.set_cons_zero] | simp only [List.set_cons_succ]))
    refine AnyL.takeD (i := 3) (d := some 47) (v := ?_) rfl rfl (by kernel_rfl) (by kernel_rfl) (fun _ _ _ h => h) (by kernel_rfl) (by kernel_rfl) (by kernel_rfl) (Or.inl ⟨by rfl, ?_⟩) hHeld ?_
    rotate_left 1
    focus (intro w hSw; (try dsimp only at hSw); go_simp; (try with_reducible rfl))
    (repeat (first | simp only [Act.put] | simp only [List.setIfInBounds_toArray] | simp only [List.set_cons_zero] | simp only [List.set_cons_succ]))
    refine AnyL.takeD (i := 4) (d := some 48) (v := ?_) rfl rfl (by kernel_rfl) (by kernel_rfl) (fun _ _ _ h => h) (by kernel_rfl) (by kernel_rfl) (by kernel_rfl) (Or.inl ⟨by rfl, ?_⟩) hHeld ?_
    rotate_left 1
    focus (intro w hSw; (try dsimp only at hSw); go_simp; (try with_reducible rfl))
    (repeat (first | simp only [Act.put] | simp only [List.setIfInBounds_toArray] | simp only [List.set_cons_zero] | simp only [List.set_cons_succ]))
    refine AnyL.takeD (i := 5) (d := some 49) (v := ?_) rfl rfl (by kernel_rfl) (by kernel_rfl) (fun _ _ _ h => h) (by kernel_rfl) (by kernel_rfl) (by kernel_rfl) (Or.inl ⟨by rfl, ?_⟩) hHeld ?_
    rotate_left 1
    focus (intro w hSw; (try dsimp only at hSw); go_simp; (try with_reducible rfl))
    (repeat (first | simp only [Act.put] | simp only [List.setIfInBounds_toArray] | simp only [List.set_cons_zero] | simp only [List.set_cons_succ]))
    refine AnyL.takeD (i := 6) (d := some 50) (v := ?_) rfl rfl (by kernel_rfl) (by kernel_rfl) (fun _ _ _ h => h) (by kernel_rfl) (by kernel_rfl) (by kernel_rfl) (Or.inl ⟨by rfl, ?_⟩) hHeld ?_
    rotate_left 1
    focus (intro w hSw; (try dsimp only at hSw); go_simp; (try with_reducible rfl))
    (repeat (first | simp only [Act.put] | simp only [List.setIfInBounds_toArray] | simp only [List.set_cons_zero] | simp only [List.set_cons_succ]))
    refine AnyL.takeD (i := 7) (d := some 51) (v := ?_) rfl rfl (by kernel_rfl) (by kernel_rfl) (fun _ _ _ h => h) (by kernel_rfl) (by kernel_rfl) (by kernel_rfl) (Or.inl ⟨by rfl, ?_⟩) hHeld ?_
    rotate_left 1
    focus (intro w hSw; (try dsimp only at hSw); go_simp; (try with_reducible rfl))
    (repeat (first | simp only [Act.put] | simp only [List.setIfInBounds_toArray] | simp only [List.set_cons_zero] | simp only [List.set_cons_succ]))
    refine AnyL.takeD (i := 8) (d := some 52) (v := ?_) rfl rfl (by kernel_rfl) (by kernel_rfl) (fun _ _ _ h => h) (by kernel_rfl) (by kernel_rfl) (by kernel_rfl) (Or.inl ⟨by rfl, ?_⟩) hHeld ?_
    rotate_left 1
    focus (intro w hSw; (try dsimp only at hSw); go_simp; (try with_reducible rfl))
    (repeat (first | simp only [Act.put] | simp only [List.setIfInBounds_toArray] | simp only [List.set_cons_zero] | simp only [List.set_cons_succ]))
    refine AnyL.takeD (i := 9) (d := some 53) (v := ?_) rfl rfl (by kernel_rfl) (by kernel_rfl) (fun _ _ _ h => h) (by kernel_rfl) (by kernel_rfl) (by kernel_rfl) (Or.inl ⟨by rfl, ?_⟩) hHeld ?_
    rotate_left 1
    focus (intro w hSw; (try dsimp only at hSw); go_simp; (try with_reducible rfl))
    (repeat (first | simp only [Act.put] | simp only [List.setIfInBounds_toArray] | simp only [List.set_cons_zero] | simp only [List.set_cons_succ]))
    refine AnyL.takeD (i := 10) (d := some 54) (v := ?_) rfl rfl (by kernel_rfl) (by kernel_rfl) (fun _ _ _ h => h) (by kernel_rfl) (by kernel_rfl) (by kernel_rfl) (Or.inl ⟨by rfl, ?_⟩) hHeld ?_
    rotate_left 1
    focus (intro w hSw; (try dsimp only at hSw); obtain ⟨a0, a1, a2, a3, a4, a5, b0, b1, b2, b3, b4, b5⟩ := HF.out w hSw; obtain ⟨c0, c1, c2, c3, c4, c5⟩ := HC7.out w hSw; go_simp; (try with_reducible rfl))
    (repeat (first | simp only [Act.put] | simp only [List.setIfInBounds_toArray] | simp only [List.set_cons_zero] | simp only [List.set_cons_succ]))
    refine AnyL.takeD (i := 12) (d := some 56) (v := ?_) rfl rfl (by kernel_rfl) (by kernel_rfl) (fun _ _ _ h => h) (by kernel_rfl) (by kernel_rfl) (by kernel_rfl) (Or.inl ⟨by rfl, ?_⟩) hHeld ?_
    rotate_left 1
    focus (intro w hSw; (try dsimp only at hSw); obtain ⟨a0, a1, a2, a3, a4, a5, b0, b1, b2, b3, b4, b5⟩ := HF.out w hSw; obtain ⟨c0, c1, c2, c3, c4, c5⟩ := HC7.out w hSw; go_simp; (try with_reducible rfl))
    (repeat (first | simp only [Act.put] | simp only [List.setIfInBounds_toArray] | simp only [List.set_cons_zero] | simp only [List.set_cons_succ]))
    refine AnyL.one (i := 11) (by kernel_rfl) rfl (fun K hK => ?_)
    go_simp
    go_at_call 10
    refine ((D7.out _ HB2.out).out).mono ?_
    rintro e w7 ⟨rfl, hb7⟩
    have HB3 : Hid (Below V01.heap.size V01 w7) := Lib.hid ((show Below V01.heap.size V01 _ from HB2.out).trans (hb7.mono (show Below V01.heap.size V01 _ from HB2.out).size))
    clear hb7
    refine hK.out _ _ (fun _ => HB3.out) (fun hHeld => ?_)
    replace hHeld := hHeld (by kernel_rfl)
    clear hK K
    (repeat (first | simp only [Act.put] | simp only [List.setIfInBounds_toArray] | simp only [List.set_cons_zero] | simp only [List.set_cons_succ]))
    refine AnyL.one (i := 13) (by kernel_rfl) rfl (fun K hK => ?_)
    go_simp
    go_at_call 11
    refine ((D8.out _ HB3.out).out).mono ?_
    rintro e w7 ⟨rfl, hb7⟩
    have HB4 : Hid (Below V01.heap.size V01 w7) := Lib.hid ((show Below V01.heap.size V01 _ from HB3.out).trans (hb7.mono (show Below V01.heap.size V01 _ from HB3.out).size))
    clear hb7
    refine hK.out _ _ (fun _ => HB4.out) (fun hHeld => ?_)
    replace hHeld := hHeld (by kernel_rfl)
    clear hK K
    (repeat (first | simp only [Act.put] | simp only [List.setIfInBounds_toArray] | simp only [List.set_cons_zero] | simp only [List.set_cons_succ]))
    refine AnyL.takeD (i := 14) (d := some 58) (v := ?_) rfl rfl (by kernel_rfl) (by kernel_rfl) (fun _ _ _ h => h) (by kernel_rfl) (by kernel_rfl) (by kernel_rfl) (Or.inl ⟨by rfl, ?_⟩) hHeld ?_
    rotate_left 1
    focus (intro w hSw; (try dsimp only at hSw); go_simp; (try with_reducible rfl))
    (repeat (first | simp only [Act.put] | simp only [List.setIfInBounds_toArray] | simp only [List.set_cons_zero] | simp only [List.set_cons_succ]))
    refine AnyL.one (i := 15) (by kernel_rfl) rfl (fun K hK => ?_)
    go_simp
    refine hK.out _ _ (fun h => nomatch (show true = false from h)) (fun _ => ?_)
    clear hK K
    (try dsimp only)
    refine AnyL.done (by kernel_rfl) ?_
    go_wp2_with fail
    go_meet
    case rel => exact ⟨rfl, HB4⟩
  case rest =>
  obtain ⟨rfl, HBc⟩ := hcut
  have GXc := Lib.hid ((HBc.out.block _ (lt_heap GX.out)).trans GX.out)
  have GYc := Lib.hid ((HBc.out.block _ (lt_heap GY.out)).trans GY.out)
  replace HB := Lib.hid (HB.out.trans (HBc.out.mono HB.out.size))
  clear GX GY HVX HVY HF D6 D7 D8 HC7 tC HBwV01 HBc
  have GX := GXc
  have GY := GYc
  clear GXc GYc
  obtain ⟨V01, hV⟩ : ∃ V, V = wc := ⟨_, rfl⟩
  rw [← hV] at GX GY HB ⊢
  clear hV
  have HBwV01 : Hid (Below V01.heap.size V01 V01) := Lib.hid (Below.refl _ _)
  obtain ⟨c0_0, c0_1, c0_2, c0_3, c0_4, c0_5, c1_0, c1_1, c2_0, c2_1, c3_0, c3_1, c3_2, c3_3⟩ := HC.out _ HB.out
  obtain ⟨x1, hx⟩ : ∃ z, z = commitD b c := ⟨_, rfl⟩
  have D4 := Lib.hid (show ∀ W', Below W1.heap.size W1 W' → Calls Tryz.prog 12 _ W' (BeaE W' (fun q => q < w.heap.size ∨ W'.heap.size ≤ q) x1) from fun W' h => by
    rw [hx]
    exact (commit_any W' _ _ _ _ b c (HBE.out.below (HB1.out.trans (h.mono HB1.out.size))) HSM.out ⟨_, rfl, IsSl.below HU.out (HB1.out.trans (h.mono HB1.out.size))⟩ HCW.out.1 HCW.out.2.2).mono fun e w' ⟨v, q1, q2, q3⟩ => ⟨v, q1, IsBea.mono q2 (fun q _ hq => by first | exact Or.inr hq | (rcases hq with hq | hq | hq <;> (first | exact Or.inl hq | exact Or.inr hq)) | (rcases hq with hq | hq <;> (first | exact Or.inl hq | exact Or.inr hq))), q3⟩)
  have D5 := Lib.hid (show ∀ W', Below W1.heap.size W1 W' → Calls Tryz.prog 13 _ W' (BeaE W' (fun q => q < w.heap.size ∨ W'.heap.size ≤ q) x1) from fun W' h => by
    rw [hx]
    exact (rCommit_any W' _ _ _ _ b c (HBE.out.below (HB1.out.trans (h.mono HB1.out.size))) HSM.out ⟨_, rfl, IsSl.below HU.out (HB1.out.trans (h.mono HB1.out.size))⟩ HCW.out.2.2).mono fun e w' ⟨v, q1, q2, q3⟩ => ⟨v, q1, IsBea.mono q2 (fun q _ hq => by first | exact Or.inr hq | (rcases hq with hq | hq | hq <;> (first | exact Or.inl hq | exact Or.inr hq)) | (rcases hq with hq | hq <;> (first | exact Or.inl hq | exact Or.inr hq))), q3⟩)
  have HOK1 := Lib.hid (show SameOk x1.1 by rw [hx]; exact SameOk.com HSM.out HFL.out.2.1 HCW.out.2.2)
  clear hx
  have tE1 : (x1.2 != x1.2) = false := by simp
  have tQ1 : (x1.2 == x1.2) = true := by simp
  go_wp2_with fail
  refine (D4.out _ (by repeat (first | with_reducible exact Below.refl _ _ | with_reducible exact HB.out | (with_reducible refine Below.drew ?_)))).mono ?_
  rintro e W9 ⟨bv, rfl, hbv, hb⟩
  have HBn : Hid (Below W1.heap.size W1 W9) := Lib.hid ((show Below W1.heap.size W1 _ from (by repeat (first | with_reducible exact Below.refl _ _ | with_reducible exact HB.out | (with_reducible refine Below.drew ?_)))).trans (hb.mono (show W1.heap.size ≤ _ from (show Below W1.heap.size W1 _ from (by repeat (first | with_reducible exact Below.refl _ _ | with_reducible exact HB.out | (with_reducible refine Below.drew ?_)))).size)))
  replace HBwV01 : Hid (Below V01.heap.size V01 W9) := Lib.hid ((show Below V01.heap.size V01 _ from (by repeat (first | with_reducible exact Below.refl _ _ | with_reducible exact HBwV01.out | (with_reducible refine Below.drew ?_)))).trans (hb.mono (show V01.heap.size ≤ _ from (show Below V01.heap.size V01 _ from (by repeat (first | with_reducible exact Below.refl _ _ | with_reducible exact HBwV01.out | (with_reducible refine Below.drew ?_)))).size)))
  clear hb HB c0_0 c0_1 c0_2 c0_3 c0_4 c0_5 c1_0 c1_1 c2_0 c2_1 c3_0 c3_1 c3_2 c3_3
  have HB := HBn
  clear HBn
  obtain ⟨c0_0, c0_1, c0_2, c0_3, c0_4, c0_5, c1_0, c1_1, c2_0, c2_1, c3_0, c3_1, c3_2, c3_3⟩ := HC.out _ HB.out
  have kx := (HBwV01.out.block _ (lt_heap GX.out)).trans GX.out
  have ky := (HBwV01.out.block _ (lt_heap GY.out)).trans GY.out
  have hx9 := lt_heap GX.out
  have hy9 := lt_heap GY.out
  obtain ⟨pa1A, pa1c, qa1A, qa1c, sa1A, sa1c, ta1A, ta1c, rfl, -⟩ := hbv.parts
  have HV := Lib.hid (IsBea.mono (M' := fun q => q ≠ gx ∧ q ≠ gy) hbv (fun q _ hq => by constructor <;> (rcases hq with hq | hq <;> omega)))
  clear hbv hx9 hy9 D4 c0_0 c0_1 c0_2 c0_3 c0_4 c0_5 c1_0 c1_1 c2_0 c2_1 c3_0 c3_1 c3_2 c3_3
  obtain ⟨⟨m0, m1, m2, m3, m4, m5⟩, ⟨n0, n1, n2, n3, n4, n5⟩⟩ := blk6 kx
  go_upto_region 10 with fail
  refine nameC fun V10 hW => ?_
  have hbn : Below W1.heap.size W1 V10 := by rw [hW.out]; exact w6_below HB.out hgx _ _ _ _ _ _
  have GN := Lib.hid (show V10.heap[gx]? = some (.cells #[.slice pa1A x1.1.clubs.length pa1c, .int .i64 x1.1.thr, .int .u64 (x1.1.rng : Int), .slice qa1A x1.1.coms.length qa1c, .slice sa1A x1.1.revs.length sa1c, .slice ta1A x1.1.opns.length ta1c] 28 (0, 0)) by rw [hW.out]; exact w6_at kx _ _ _ _ _ _)
  have hoth : ∀ q, q ≠ gx → V10.heap[q]? = W9.heap[q]? := fun q hq => by rw [hW.out]; exact w6_other hq _ _ _ _ _ _
  replace HV := Lib.hid (HV.out.keep (w' := V10) fun p hp _ => World.cell?_of_block (w := W9) (hoth p.block hp.1))
  replace HB := Lib.hid hbn
  have GY2 := Lib.hid ((hoth gy (fun e => hxy e.symm)).trans ky)
  clear GX GY
  have GX := GN
  have GY := GY2
  clear GN GY2
  have HVX := HV
  clear HV
  clear hW hbn hoth kx ky m0 m1 m2 m3 m4 m5 n0 n1 n2 n3 n4 n5 HBwV01
  have HBwV10 : Hid (Below V10.heap.size V10 V10) := Lib.hid (Below.refl _ _)
  obtain ⟨c0_0, c0_1, c0_2, c0_3, c0_4, c0_5, c1_0, c1_1, c2_0, c2_1, c3_0, c3_1, c3_2, c3_3⟩ := HC.out _ HB.out
  go_wp2_with fail
  refine (D5.out _ (by repeat (first | with_reducible exact Below.refl _ _ | with_reducible exact HB.out | (with_reducible refine Below.drew ?_)))).mono ?_
  rintro e W9 ⟨bv, rfl, hbv, hb⟩
  have HBn : Hid (Below W1.heap.size W1 W9) := Lib.hid ((show Below W1.heap.size W1 _ from (by repeat (first | with_reducible exact Below.refl _ _ | with_reducible exact HB.out | (with_reducible refine Below.drew ?_)))).trans (hb.mono (show W1.heap.size ≤ _ from (show Below W1.heap.size W1 _ from (by repeat (first | with_reducible exact Below.refl _ _ | with_reducible exact HB.out | (with_reducible refine Below.drew ?_)))).size)))
  replace HBwV10 : Hid (Below V10.heap.size V10 W9) := Lib.hid ((show Below V10.heap.size V10 _ from (by repeat (first | with_reducible exact Below.refl _ _ | with_reducible exact HBwV10.out | (with_reducible refine Below.drew ?_)))).trans (hb.mono (show V10.heap.size ≤ _ from (show Below V10.heap.size V10 _ from (by repeat (first | with_reducible exact Below.refl _ _ | with_reducible exact HBwV10.out | (with_reducible refine Below.drew ?_)))).size)))
  clear hb HB c0_0 c0_1 c0_2 c0_3 c0_4 c0_5 c1_0 c1_1 c2_0 c2_1 c3_0 c3_1 c3_2 c3_3
  have HB := HBn
  clear HBn
  obtain ⟨c0_0, c0_1, c0_2, c0_3, c0_4, c0_5, c1_0, c1_1, c2_0, c2_1, c3_0, c3_1, c3_2, c3_3⟩ := HC.out _ HB.out
  have kx := (HBwV10.out.block _ (lt_heap GX.out)).trans GX.out
  have ky := (HBwV10.out.block _ (lt_heap GY.out)).trans GY.out
  have hx9 := lt_heap GX.out
  have hy9 := lt_heap GY.out
  obtain ⟨pb1A, pb1c, qb1A, qb1c, sb1A, sb1c, tb1A, tb1c, rfl, -⟩ := hbv.parts
  have HV := Lib.hid (IsBea.mono (M' := fun q => q ≠ gx ∧ q ≠ gy) hbv (fun q _ hq => by constructor <;> (rcases hq with hq | hq <;> omega)))
  clear hbv hx9 hy9 D5 c0_0 c0_1 c0_2 c0_3 c0_4 c0_5 c1_0 c1_1 c2_0 c2_1 c3_0 c3_1 c3_2 c3_3
  obtain ⟨⟨m0, m1, m2, m3, m4, m5⟩, ⟨n0, n1, n2, n3, n4, n5⟩⟩ := blk6 ky
  go_upto_region 11 with fail
  refine nameC fun V11 hW => ?_
  have hbn : Below W1.heap.size W1 V11 := by rw [hW.out]; exact w6_below HB.out hgy _ _ _ _ _ _
  have GN := Lib.hid (show V11.heap[gy]? = some (.cells #[.slice pb1A x1.1.clubs.length pb1c, .int .i64 x1.1.thr, .int .u64 (x1.1.rng : Int), .slice qb1A x1.1.coms.length qb1c, .slice sb1A x1.1.revs.length sb1c, .slice tb1A x1.1.opns.length tb1c] 28 (0, 0)) by rw [hW.out]; exact w6_at ky _ _ _ _ _ _)
  have hoth : ∀ q, q ≠ gy → V11.heap[q]? = W9.heap[q]? := fun q hq => by rw [hW.out]; exact w6_other hq _ _ _ _ _ _
  replace HV := Lib.hid (HV.out.keep (w' := V11) fun p hp _ => World.cell?_of_block (w := W9) (hoth p.block hp.2))
  replace HB := Lib.hid hbn
  have GX2 := Lib.hid ((hoth gx hxy).trans kx)
  have HVX2 := Lib.hid ((HVX.out.below HBwV10.out).keep (w' := V11) fun p hp _ => World.cell?_of_block (w := W9) (hoth p.block hp.2))
  clear GX GY HVX
  have GX := GX2
  have GY := GN
  have HVX := HVX2
  have HVY := HV
  clear GN GX2 HVX2 HV
  clear hW hbn hoth kx ky m0 m1 m2 m3 m4 m5 n0 n1 n2 n3 n4 n5 HBwV10
  have HBwV11 : Hid (Below V11.heap.size V11 V11) := Lib.hid (Below.refl _ _)
  obtain ⟨c0_0, c0_1, c0_2, c0_3, c0_4, c0_5, c1_0, c1_1, c2_0, c2_1, c3_0, c3_1, c3_2, c3_3⟩ := HC.out _ HB.out
  have HF := Lib.hid (show ∀ W', Below V11.heap.size V11 W' → (W'.cell? ⟨gx, 0, none⟩ = some (.slice pa1A x1.1.clubs.length pa1c) ∧ W'.cell? ⟨gx, 1, none⟩ = some (.int .i64 x1.1.thr) ∧ W'.cell? ⟨gx, 2, none⟩ = some (.int .u64 (x1.1.rng : Int)) ∧ W'.cell? ⟨gx, 3, none⟩ = some (.slice qa1A x1.1.coms.length qa1c) ∧ W'.cell? ⟨gx, 4, none⟩ = some (.slice sa1A x1.1.revs.length sa1c) ∧ W'.cell? ⟨gx, 5, none⟩ = some (.slice ta1A x1.1.opns.length ta1c) ∧ W'.cell? ⟨gy, 0, none⟩ = some (.slice pb1A x1.1.clubs.length pb1c) ∧ W'.cell? ⟨gy, 1, none⟩ = some (.int .i64 x1.1.thr) ∧ W'.cell? ⟨gy, 2, none⟩ = some (.int .u64 (x1.1.rng : Int)) ∧ W'.cell? ⟨gy, 3, none⟩ = some (.slice qb1A x1.1.coms.length qb1c) ∧ W'.cell? ⟨gy, 4, none⟩ = some (.slice sb1A x1.1.revs.length sb1c) ∧ W'.cell? ⟨gy, 5, none⟩ = some (.slice tb1A x1.1.opns.length tb1c)) from fun W' h => by
    have e0 := (h.block _ (lt_heap GX.out)).trans GX.out
    have e1 := (h.block _ (lt_heap GY.out)).trans GY.out
    exact ⟨cell_of e0 rfl, cell_of e0 rfl, cell_of e0 rfl, cell_of e0 rfl, cell_of e0 rfl, cell_of e0 rfl, cell_of e1 rfl, cell_of e1 rfl, cell_of e1 rfl, cell_of e1 rfl, cell_of e1 rfl, cell_of e1 rfl⟩)
  have D6 := Lib.hid (fun (W' : World) (h : Below V11.heap.size V11 W') => Lib.hid (rsame_any W' _ _ _ _ x1.1 (HVX.out.below h) (HVY.out.below h) HOK1.out))
  clear c0_0 c0_1 c0_2 c0_3 c0_4 c0_5 c1_0 c1_1 c2_0 c2_1 c3_0 c3_1 c3_2 c3_3
  obtain ⟨a0, a1, a2, a3, a4, a5, b0, b1, b2, b3, b4, b5⟩ := HF.out V11 (Below.refl _ _)
  go_wp2_with fail
  refine (D6.out _ (by repeat (first | with_reducible exact Below.refl _ _ | (with_reducible refine Below.drew ?_)))).out.mono ?_
  rintro e W9 ⟨rfl, hb⟩
  have HBc : Hid (Below V11.heap.size V11 W9) := Lib.hid ((show Below V11.heap.size V11 _ from (by repeat (first | with_reducible exact Below.refl _ _ | (with_reducible refine Below.drew ?_)))).trans (hb.mono (Nat.le_refl _)))
  clear hb a0 a1 a2 a3 a4 a5 b0 b1 b2 b3 b4 b5 D6 HF
  have GXc := Lib.hid ((HBc.out.block _ (lt_heap GX.out)).trans GX.out)
  have GYc := Lib.hid ((HBc.out.block _ (lt_heap GY.out)).trans GY.out)
  replace HB := Lib.hid (HB.out.trans (HBc.out.mono HB.out.size))
  clear GX GY HVX HVY HBwV11 HBc
  have GX := GXc
  have GY := GYc
  clear GXc GYc
  obtain ⟨V11, hV⟩ : ∃ V, V = W9 := ⟨_, rfl⟩
  rw [← hV] at GX GY HB ⊢
  clear hV
  have HBwV11 : Hid (Below V11.heap.size V11 V11) := Lib.hid (Below.refl _ _)
  obtain ⟨c0_0, c0_1, c0_2, c0_3, c0_4, c0_5, c1_0, c1_1, c2_0, c2_1, c3_0, c3_1, c3_2, c3_3⟩ := HC.out _ HB.out
  obtain ⟨x2, hx⟩ : ∃ z, z = revealD b r := ⟨_, rfl⟩
  have D4 := Lib.hid (show ∀ W', Below W1.heap.size W1 W' → Calls Tryz.prog 14 _ W' (BeaE W' (fun q => q < w.heap.size ∨ W'.heap.size ≤ q) x2) from fun W' h => by
    rw [hx]
    exact (reveal_any W' _ _ b r (HBE.out.below (HB1.out.trans (h.mono HB1.out.size))) HSM.out HRW.out.1 HRW.out.2).mono fun e w' ⟨v, q1, q2, q3⟩ => ⟨v, q1, IsBea.mono q2 (fun q _ hq => by first | exact Or.inr hq | (rcases hq with hq | hq | hq <;> (first | exact Or.inl hq | exact Or.inr hq)) | (rcases hq with hq | hq <;> (first | exact Or.inl hq | exact Or.inr hq))), q3⟩)
  have D5 := Lib.hid (show ∀ W', Below W1.heap.size W1 W' → Calls Tryz.prog 15 _ W' (BeaE W' (fun q => q < w.heap.size ∨ W'.heap.size ≤ q) x2) from fun W' h => by
    rw [hx]
    exact (rReveal_any W' _ _ b r (HBE.out.below (HB1.out.trans (h.mono HB1.out.size))) HSM.out HRW.out.2).mono fun e w' ⟨v, q1, q2, q3⟩ => ⟨v, q1, IsBea.mono q2 (fun q _ hq => by first | exact Or.inr hq | (rcases hq with hq | hq | hq <;> (first | exact Or.inl hq | exact Or.inr hq)) | (rcases hq with hq | hq <;> (first | exact Or.inl hq | exact Or.inr hq))), q3⟩)
  have HOK2 := Lib.hid (show SameOk x2.1 by rw [hx]; exact SameOk.rev HSM.out)
  clear hx
  have tE2 : (x2.2 != x2.2) = false := by simp
  have tQ2 : (x2.2 == x2.2) = true := by simp
  go_wp2_with fail
  refine (D4.out _ (by repeat (first | with_reducible exact Below.refl _ _ | with_reducible exact HB.out | (with_reducible refine Below.drew ?_)))).mono ?_
  rintro e W9 ⟨bv, rfl, hbv, hb⟩
  have HBn : Hid (Below W1.heap.size W1 W9) := Lib.hid ((show Below W1.heap.size W1 _ from (by repeat (first | with_reducible exact Below.refl _ _ | with_reducible exact HB.out | (with_reducible refine Below.drew ?_)))).trans (hb.mono (show W1.heap.size ≤ _ from (show Below W1.heap.size W1 _ from (by repeat (first | with_reducible exact Below.refl _ _ | with_reducible exact HB.out | (with_reducible refine Below.drew ?_)))).size)))
  replace HBwV11 : Hid (Below V11.heap.size V11 W9) := Lib.hid ((show Below V11.heap.size V11 _ from (by repeat (first | with_reducible exact Below.refl _ _ | with_reducible exact HBwV11.out | (with_reducible refine Below.drew ?_)))).trans (hb.mono (show V11.heap.size ≤ _ from (show Below V11.heap.size V11 _ from (by repeat (first | with_reducible exact Below.refl _ _ | with_reducible exact HBwV11.out | (with_reducible refine Below.drew ?_)))).size)))
  clear hb HB c0_0 c0_1 c0_2 c0_3 c0_4 c0_5 c1_0 c1_1 c2_0 c2_1 c3_0 c3_1 c3_2 c3_3
  have HB := HBn
  clear HBn
  obtain ⟨c0_0, c0_1, c0_2, c0_3, c0_4, c0_5, c1_0, c1_1, c2_0, c2_1, c3_0, c3_1, c3_2, c3_3⟩ := HC.out _ HB.out
  have kx := (HBwV11.out.block _ (lt_heap GX.out)).trans GX.out
  have ky := (HBwV11.out.block _ (lt_heap GY.out)).trans GY.out
  have hx9 := lt_heap GX.out
  have hy9 := lt_heap GY.out
  obtain ⟨pa2A, pa2c, qa2A, qa2c, sa2A, sa2c, ta2A, ta2c, rfl, -⟩ := hbv.parts
  have HV := Lib.hid (IsBea.mono (M' := fun q => q ≠ gx ∧ q ≠ gy) hbv (fun q _ hq => by constructor <;> (rcases hq with hq | hq <;> omega)))
  clear hbv hx9 hy9 D4 c0_0 c0_1 c0_2 c0_3 c0_4 c0_5 c1_0 c1_1 c2_0 c2_1 c3_0 c3_1 c3_2 c3_3
  obtain ⟨⟨m0, m1, m2, m3, m4, m5⟩, ⟨n0, n1, n2, n3, n4, n5⟩⟩ := blk6 kx
  go_upto_region 14 with fail
  refine nameC fun V20 hW => ?_
  have hbn : Below W1.heap.size W1 V20 := by rw [hW.out]; exact w6_below HB.out hgx _ _ _ _ _ _
  have GN := Lib.hid (show V20.heap[gx]? = some (.cells #[.slice pa2A x2.1.clubs.length pa2c, .int .i64 x2.1.thr, .int .u64 (x2.1.rng : Int), .slice qa2A x2.1.coms.length qa2c, .slice sa2A x2.1.revs.length sa2c, .slice ta2A x2.1.opns.length ta2c] 28 (0, 0)) by rw [hW.out]; exact w6_at kx _ _ _ _ _ _)
  have hoth : ∀ q, q ≠ gx → V20.heap[q]? = W9.heap[q]? := fun q hq => by rw [hW.out]; exact w6_other hq _ _ _ _ _ _
  replace HV := Lib.hid (HV.out.keep (w' := V20) fun p hp _ => World.cell?_of_block (w := W9) (hoth p.block hp.1))
  replace HB := Lib.hid hbn
  have GY2 := Lib.hid ((hoth gy (fun e => hxy e.symm)).trans ky)
  clear GX GY
  have GX := GN
  have GY := GY2
  clear GN GY2
  have HVX := HV
  clear HV
  clear hW hbn hoth kx ky m0 m1 m2 m3 m4 m5 n0 n1 n2 n3 n4 n5 HBwV11
  have HBwV20 : Hid (Below V20.heap.size V20 V20) := Lib.hid (Below.refl _ _)
  obtain ⟨c0_0, c0_1, c0_2, c0_3, c0_4, c0_5, c1_0, c1_1, c2_0, c2_1, c3_0, c3_1, c3_2, c3_3⟩ := HC.out _ HB.out
  go_wp2_with fail
  refine (D5.out _ (by repeat (first | with_reducible exact Below.refl _ _ | with_reducible exact HB.out | (with_reducible refine Below.drew ?_)))).mono ?_
  rintro e W9 ⟨bv, rfl, hbv, hb⟩
  have HBn : Hid (Below W1.heap.size W1 W9) := Lib.hid ((show Below W1.heap.size W1 _ from (by repeat (first | with_reducible exact Below.refl _ _ | with_reducible exact HB.out | (with_reducible refine Below.drew ?_)))).trans (hb.mono (show W1.heap.size ≤ _ from (show Below W1.heap.size W1 _ from (by repeat (first | with_reducible exact Below.refl _ _ | with_reducible exact HB.out | (with_reducible refine Below.drew ?_)))).size)))
  replace HBwV20 : Hid (Below V20.heap.size V20 W9) := Lib.hid ((show Below V20.heap.size V20 _ from (by repeat (first | with_reducible exact Below.refl _ _ | with_reducible exact HBwV20.out | (with_reducible refine Below.drew ?_)))).trans (hb.mono (show V20.heap.size ≤ _ from (show Below V20.heap.size V20 _ from (by repeat (first | with_reducible exact Below.refl _ _ | with_reducible exact HBwV20.out | (with_reducible refine Below.drew ?_)))).size)))
  clear hb HB c0_0 c0_1 c0_2 c0_3 c0_4 c0_5 c1_0 c1_1 c2_0 c2_1 c3_0 c3_1 c3_2 c3_3
  have HB := HBn
  clear HBn
  obtain ⟨c0_0, c0_1, c0_2, c0_3, c0_4, c0_5, c1_0, c1_1, c2_0, c2_1, c3_0, c3_1, c3_2, c3_3⟩ := HC.out _ HB.out
  have kx := (HBwV20.out.block _ (lt_heap GX.out)).trans GX.out
  have ky := (HBwV20.out.block _ (lt_heap GY.out)).trans GY.out
  have hx9 := lt_heap GX.out
  have hy9 := lt_heap GY.out
  obtain ⟨pb2A, pb2c, qb2A, qb2c, sb2A, sb2c, tb2A, tb2c, rfl, -⟩ := hbv.parts
  have HV := Lib.hid (IsBea.mono (M' := fun q => q ≠ gx ∧ q ≠ gy) hbv (fun q _ hq => by constructor <;> (rcases hq with hq | hq <;> omega)))
  clear hbv hx9 hy9 D5 c0_0 c0_1 c0_2 c0_3 c0_4 c0_5 c1_0 c1_1 c2_0 c2_1 c3_0 c3_1 c3_2 c3_3
  obtain ⟨⟨m0, m1, m2, m3, m4, m5⟩, ⟨n0, n1, n2, n3, n4, n5⟩⟩ := blk6 ky
  go_upto_region 15 with fail
  refine nameC fun V21 hW => ?_
  have hbn : Below W1.heap.size W1 V21 := by rw [hW.out]; exact w6_below HB.out hgy _ _ _ _ _ _
  have GN := Lib.hid (show V21.heap[gy]? = some (.cells #[.slice pb2A x2.1.clubs.length pb2c, .int .i64 x2.1.thr, .int .u64 (x2.1.rng : Int), .slice qb2A x2.1.coms.length qb2c, .slice sb2A x2.1.revs.length sb2c, .slice tb2A x2.1.opns.length tb2c] 28 (0, 0)) by rw [hW.out]; exact w6_at ky _ _ _ _ _ _)
  have hoth : ∀ q, q ≠ gy → V21.heap[q]? = W9.heap[q]? := fun q hq => by rw [hW.out]; exact w6_other hq _ _ _ _ _ _
  replace HV := Lib.hid (HV.out.keep (w' := V21) fun p hp _ => World.cell?_of_block (w := W9) (hoth p.block hp.2))
  replace HB := Lib.hid hbn
  have GX2 := Lib.hid ((hoth gx hxy).trans kx)
  have HVX2 := Lib.hid ((HVX.out.below HBwV20.out).keep (w' := V21) fun p hp _ => World.cell?_of_block (w := W9) (hoth p.block hp.2))
  clear GX GY HVX
  have GX := GX2
  have GY := GN
  have HVX := HVX2
  have HVY := HV
  clear GN GX2 HVX2 HV
  clear hW hbn hoth kx ky m0 m1 m2 m3 m4 m5 n0 n1 n2 n3 n4 n5 HBwV20
  have HBwV21 : Hid (Below V21.heap.size V21 V21) := Lib.hid (Below.refl _ _)
  obtain ⟨c0_0, c0_1, c0_2, c0_3, c0_4, c0_5, c1_0, c1_1, c2_0, c2_1, c3_0, c3_1, c3_2, c3_3⟩ := HC.out _ HB.out
  have HF := Lib.hid (show ∀ W', Below V21.heap.size V21 W' → (W'.cell? ⟨gx, 0, none⟩ = some (.slice pa2A x2.1.clubs.length pa2c) ∧ W'.cell? ⟨gx, 1, none⟩ = some (.int .i64 x2.1.thr) ∧ W'.cell? ⟨gx, 2, none⟩ = some (.int .u64 (x2.1.rng : Int)) ∧ W'.cell? ⟨gx, 3, none⟩ = some (.slice qa2A x2.1.coms.length qa2c) ∧ W'.cell? ⟨gx, 4, none⟩ = some (.slice sa2A x2.1.revs.length sa2c) ∧ W'.cell? ⟨gx, 5, none⟩ = some (.slice ta2A x2.1.opns.length ta2c) ∧ W'.cell? ⟨gy, 0, none⟩ = some (.slice pb2A x2.1.clubs.length pb2c) ∧ W'.cell? ⟨gy, 1, none⟩ = some (.int .i64 x2.1.thr) ∧ W'.cell? ⟨gy, 2, none⟩ = some (.int .u64 (x2.1.rng : Int)) ∧ W'.cell? ⟨gy, 3, none⟩ = some (.slice qb2A x2.1.coms.length qb2c) ∧ W'.cell? ⟨gy, 4, none⟩ = some (.slice sb2A x2.1.revs.length sb2c) ∧ W'.cell? ⟨gy, 5, none⟩ = some (.slice tb2A x2.1.opns.length tb2c)) from fun W' h => by
    have e0 := (h.block _ (lt_heap GX.out)).trans GX.out
    have e1 := (h.block _ (lt_heap GY.out)).trans GY.out
    exact ⟨cell_of e0 rfl, cell_of e0 rfl, cell_of e0 rfl, cell_of e0 rfl, cell_of e0 rfl, cell_of e0 rfl, cell_of e1 rfl, cell_of e1 rfl, cell_of e1 rfl, cell_of e1 rfl, cell_of e1 rfl, cell_of e1 rfl⟩)
  have D6 := Lib.hid (fun (W' : World) (h : Below V21.heap.size V21 W') => Lib.hid (rsame_any W' _ _ _ _ x2.1 (HVX.out.below h) (HVY.out.below h) HOK2.out))
  clear c0_0 c0_1 c0_2 c0_3 c0_4 c0_5 c1_0 c1_1 c2_0 c2_1 c3_0 c3_1 c3_2 c3_3
  obtain ⟨a0, a1, a2, a3, a4, a5, b0, b1, b2, b3, b4, b5⟩ := HF.out V21 (Below.refl _ _)
  go_wp2_with fail
  refine (D6.out _ (by repeat (first | with_reducible exact Below.refl _ _ | (with_reducible refine Below.drew ?_)))).out.mono ?_
  rintro e W9 ⟨rfl, hb⟩
  have HBc : Hid (Below V21.heap.size V21 W9) := Lib.hid ((show Below V21.heap.size V21 _ from (by repeat (first | with_reducible exact Below.refl _ _ | (with_reducible refine Below.drew ?_)))).trans (hb.mono (Nat.le_refl _)))
  clear hb a0 a1 a2 a3 a4 a5 b0 b1 b2 b3 b4 b5 D6 HF
  have GXc := Lib.hid ((HBc.out.block _ (lt_heap GX.out)).trans GX.out)
  have GYc := Lib.hid ((HBc.out.block _ (lt_heap GY.out)).trans GY.out)
  replace HB := Lib.hid (HB.out.trans (HBc.out.mono HB.out.size))
  clear GX GY HVX HVY HBwV21 HBc
  have GX := GXc
  have GY := GYc
  clear GXc GYc
  obtain ⟨V21, hV⟩ : ∃ V, V = W9 := ⟨_, rfl⟩
  rw [← hV] at GX GY HB ⊢
  clear hV
  have HBwV21 : Hid (Below V21.heap.size V21 V21) := Lib.hid (Below.refl _ _)
  obtain ⟨c0_0, c0_1, c0_2, c0_3, c0_4, c0_5, c1_0, c1_1, c2_0, c2_1, c3_0, c3_1, c3_2, c3_3⟩ := HC.out _ HB.out
  obtain ⟨x3, hx⟩ : ∃ z, z = openD b o := ⟨_, rfl⟩
  have D4 := Lib.hid (show ∀ W', Below W1.heap.size W1 W' → Calls Tryz.prog 16 _ W' (BeaE W' (fun q => q < w.heap.size ∨ W'.heap.size ≤ q) x3) from fun W' h => by
    rw [hx]
    exact (openS_any W' _ _ b o (HBE.out.below (HB1.out.trans (h.mono HB1.out.size))) HSM.out HOW.out.1 HOW.out.2.1).mono fun e w' ⟨v, q1, q2, q3⟩ => ⟨v, q1, IsBea.mono q2 (fun q _ hq => by first | exact Or.inr hq | (rcases hq with hq | hq | hq <;> (first | exact Or.inl hq | exact Or.inr hq)) | (rcases hq with hq | hq <;> (first | exact Or.inl hq | exact Or.inr hq))), q3⟩)
  have D5 := Lib.hid (show ∀ W', Below W1.heap.size W1 W' → Calls Tryz.prog 17 _ W' (BeaE W' (fun q => q < w.heap.size ∨ W'.heap.size ≤ q) x3) from fun W' h => by
    rw [hx]
    exact (rOpen_any W' _ _ b o (HBE.out.below (HB1.out.trans (h.mono HB1.out.size))) HSM.out).mono fun e w' ⟨v, q1, q2, q3⟩ => ⟨v, q1, IsBea.mono q2 (fun q _ hq => by first | exact Or.inr hq | (rcases hq with hq | hq | hq <;> (first | exact Or.inl hq | exact Or.inr hq)) | (rcases hq with hq | hq <;> (first | exact Or.inl hq | exact Or.inr hq))), q3⟩)
  have HOK3 := Lib.hid (show SameOk x3.1 by rw [hx]; exact SameOk.opn HSM.out)
  clear hx
  have tE3 : (x3.2 != x3.2) = false := by simp
  have tQ3 : (x3.2 == x3.2) = true := by simp
  go_wp2_with fail
  refine (D4.out _ (by repeat (first | with_reducible exact Below.refl _ _ | with_reducible exact HB.out | (with_reducible refine Below.drew ?_)))).mono ?_
  rintro e W9 ⟨bv, rfl, hbv, hb⟩
  have HBn : Hid (Below W1.heap.size W1 W9) := Lib.hid ((show Below W1.heap.size W1 _ from (by repeat (first | with_reducible exact Below.refl _ _ | with_reducible exact HB.out | (with_reducible refine Below.drew ?_)))).trans (hb.mono (show W1.heap.size ≤ _ from (show Below W1.heap.size W1 _ from (by repeat (first | with_reducible exact Below.refl _ _ | with_reducible exact HB.out | (with_reducible refine Below.drew ?_)))).size)))
  replace HBwV21 : Hid (Below V21.heap.size V21 W9) := Lib.hid ((show Below V21.heap.size V21 _ from (by repeat (first | with_reducible exact Below.refl _ _ | with_reducible exact HBwV21.out | (with_reducible refine Below.drew ?_)))).trans (hb.mono (show V21.heap.size ≤ _ from (show Below V21.heap.size V21 _ from (by repeat (first | with_reducible exact Below.refl _ _ | with_reducible exact HBwV21.out | (with_reducible refine Below.drew ?_)))).size)))
  clear hb HB c0_0 c0_1 c0_2 c0_3 c0_4 c0_5 c1_0 c1_1 c2_0 c2_1 c3_0 c3_1 c3_2 c3_3
  have HB := HBn
  clear HBn
  obtain ⟨c0_0, c0_1, c0_2, c0_3, c0_4, c0_5, c1_0, c1_1, c2_0, c2_1, c3_0, c3_1, c3_2, c3_3⟩ := HC.out _ HB.out
  have kx := (HBwV21.out.block _ (lt_heap GX.out)).trans GX.out
  have ky := (HBwV21.out.block _ (lt_heap GY.out)).trans GY.out
  have hx9 := lt_heap GX.out
  have hy9 := lt_heap GY.out
  obtain ⟨pa3A, pa3c, qa3A, qa3c, sa3A, sa3c, ta3A, ta3c, rfl, -⟩ := hbv.parts
  have HV := Lib.hid (IsBea.mono (M' := fun q => q ≠ gx ∧ q ≠ gy) hbv (fun q _ hq => by constructor <;> (rcases hq with hq | hq <;> omega)))
  clear hbv hx9 hy9 D4 c0_0 c0_1 c0_2 c0_3 c0_4 c0_5 c1_0 c1_1 c2_0 c2_1 c3_0 c3_1 c3_2 c3_3
  obtain ⟨⟨m0, m1, m2, m3, m4, m5⟩, ⟨n0, n1, n2, n3, n4, n5⟩⟩ := blk6 kx
  go_upto_region 18 with fail
  refine nameC fun V30 hW => ?_
  have hbn : Below W1.heap.size W1 V30 := by rw [hW.out]; exact w6_below HB.out hgx _ _ _ _ _ _
  have GN := Lib.hid (show V30.heap[gx]? = some (.cells #[.slice pa3A x3.1.clubs.length pa3c, .int .i64 x3.1.thr, .int .u64 (x3.1.rng : Int), .slice qa3A x3.1.coms.length qa3c, .slice sa3A x3.1.revs.length sa3c, .slice ta3A x3.1.opns.length ta3c] 28 (0, 0)) by rw [hW.out]; exact w6_at kx _ _ _ _ _ _)
  have hoth : ∀ q, q ≠ gx → V30.heap[q]? = W9.heap[q]? := fun q hq => by rw [hW.out]; exact w6_other hq _ _ _ _ _ _
  replace HV := Lib.hid (HV.out.keep (w' := V30) fun p hp _ => World.cell?_of_block (w := W9) (hoth p.block hp.1))
  replace HB := Lib.hid hbn
  have GY2 := Lib.hid ((hoth gy (fun e => hxy e.symm)).trans ky)
  clear GX GY
  have GX := GN
  have GY := GY2
  clear GN GY2
  have HVX := HV
  clear HV
  clear hW hbn hoth kx ky m0 m1 m2 m3 m4 m5 n0 n1 n2 n3 n4 n5 HBwV21
  have HBwV30 : Hid (Below V30.heap.size V30 V30) := Lib.hid (Below.refl _ _)
  obtain ⟨c0_0, c0_1, c0_2, c0_3, c0_4, c0_5, c1_0, c1_1, c2_0, c2_1, c3_0, c3_1, c3_2, c3_3⟩ := HC.out _ HB.out
  go_wp2_with fail
  refine (D5.out _ (by repeat (first | with_reducible exact Below.refl _ _ | with_reducible exact HB.out | (with_reducible refine Below.drew ?_)))).mono ?_
  rintro e W9 ⟨bv, rfl, hbv, hb⟩
  have HBn : Hid (Below W1.heap.size W1 W9) := Lib.hid ((show Below W1.heap.size W1 _ from (by repeat (first | with_reducible exact Below.refl _ _ | with_reducible exact HB.out | (with_reducible refine Below.drew ?_)))).trans (hb.mono (show W1.heap.size ≤ _ from (show Below W1.heap.size W1 _ from (by repeat (first | with_reducible exact Below.refl _ _ | with_reducible exact HB.out | (with_reducible refine Below.drew ?_)))).size)))
  replace HBwV30 : Hid (Below V30.heap.size V30 W9) := Lib.hid ((show Below V30.heap.size V30 _ from (by repeat (first | with_reducible exact Below.refl _ _ | with_reducible exact HBwV30.out | (with_reducible refine Below.drew ?_)))).trans (hb.mono (show V30.heap.size ≤ _ from (show Below V30.heap.size V30 _ from (by repeat (first | with_reducible exact Below.refl _ _ | with_reducible exact HBwV30.out | (with_reducible refine Below.drew ?_)))).size)))
  clear hb HB c0_0 c0_1 c0_2 c0_3 c0_4 c0_5 c1_0 c1_1 c2_0 c2_1 c3_0 c3_1 c3_2 c3_3
  have HB := HBn
  clear HBn
  obtain ⟨c0_0, c0_1, c0_2, c0_3, c0_4, c0_5, c1_0, c1_1, c2_0, c2_1, c3_0, c3_1, c3_2, c3_3⟩ := HC.out _ HB.out
  have kx := (HBwV30.out.block _ (lt_heap GX.out)).trans GX.out
  have ky := (HBwV30.out.block _ (lt_heap GY.out)).trans GY.out
  have hx9 := lt_heap GX.out
  have hy9 := lt_heap GY.out
  obtain ⟨pb3A, pb3c, qb3A, qb3c, sb3A, sb3c, tb3A, tb3c, rfl, -⟩ := hbv.parts
  have HV := Lib.hid (IsBea.mono (M' := fun q => q ≠ gx ∧ q ≠ gy) hbv (fun q _ hq => by constructor <;> (rcases hq with hq | hq <;> omega)))
  clear hbv hx9 hy9 D5 c0_0 c0_1 c0_2 c0_3 c0_4 c0_5 c1_0 c1_1 c2_0 c2_1 c3_0 c3_1 c3_2 c3_3
  obtain ⟨⟨m0, m1, m2, m3, m4, m5⟩, ⟨n0, n1, n2, n3, n4, n5⟩⟩ := blk6 ky
  go_upto_region 19 with fail
  refine nameC fun V31 hW => ?_
  have hbn : Below W1.heap.size W1 V31 := by rw [hW.out]; exact w6_below HB.out hgy _ _ _ _ _ _
  have GN := Lib.hid (show V31.heap[gy]? = some (.cells #[.slice pb3A x3.1.clubs.length pb3c, .int .i64 x3.1.thr, .int .u64 (x3.1.rng : Int), .slice qb3A x3.1.coms.length qb3c, .slice sb3A x3.1.revs.length sb3c, .slice tb3A x3.1.opns.length tb3c] 28 (0, 0)) by rw [hW.out]; exact w6_at ky _ _ _ _ _ _)
  have hoth : ∀ q, q ≠ gy → V31.heap[q]? = W9.heap[q]? := fun q hq => by rw [hW.out]; exact w6_other hq _ _ _ _ _ _
  replace HV := Lib.hid (HV.out.keep (w' := V31) fun p hp _ => World.cell?_of_block (w := W9) (hoth p.block hp.2))
  replace HB := Lib.hid hbn
  have GX2 := Lib.hid ((hoth gx hxy).trans kx)
  have HVX2 := Lib.hid ((HVX.out.below HBwV30.out).keep (w' := V31) fun p hp _ => World.cell?_of_block (w := W9) (hoth p.block hp.2))
  clear GX GY HVX
  have GX := GX2
  have GY := GN
  have HVX := HVX2
  have HVY := HV
  clear GN GX2 HVX2 HV
  clear hW hbn hoth kx ky m0 m1 m2 m3 m4 m5 n0 n1 n2 n3 n4 n5 HBwV30
  have HBwV31 : Hid (Below V31.heap.size V31 V31) := Lib.hid (Below.refl _ _)
  obtain ⟨c0_0, c0_1, c0_2, c0_3, c0_4, c0_5, c1_0, c1_1, c2_0, c2_1, c3_0, c3_1, c3_2, c3_3⟩ := HC.out _ HB.out
  have HF := Lib.hid (show ∀ W', Below V31.heap.size V31 W' → (W'.cell? ⟨gx, 0, none⟩ = some (.slice pa3A x3.1.clubs.length pa3c) ∧ W'.cell? ⟨gx, 1, none⟩ = some (.int .i64 x3.1.thr) ∧ W'.cell? ⟨gx, 2, none⟩ = some (.int .u64 (x3.1.rng : Int)) ∧ W'.cell? ⟨gx, 3, none⟩ = some (.slice qa3A x3.1.coms.length qa3c) ∧ W'.cell? ⟨gx, 4, none⟩ = some (.slice sa3A x3.1.revs.length sa3c) ∧ W'.cell? ⟨gx, 5, none⟩ = some (.slice ta3A x3.1.opns.length ta3c) ∧ W'.cell? ⟨gy, 0, none⟩ = some (.slice pb3A x3.1.clubs.length pb3c) ∧ W'.cell? ⟨gy, 1, none⟩ = some (.int .i64 x3.1.thr) ∧ W'.cell? ⟨gy, 2, none⟩ = some (.int .u64 (x3.1.rng : Int)) ∧ W'.cell? ⟨gy, 3, none⟩ = some (.slice qb3A x3.1.coms.length qb3c) ∧ W'.cell? ⟨gy, 4, none⟩ = some (.slice sb3A x3.1.revs.length sb3c) ∧ W'.cell? ⟨gy, 5, none⟩ = some (.slice tb3A x3.1.opns.length tb3c)) from fun W' h => by
    have e0 := (h.block _ (lt_heap GX.out)).trans GX.out
    have e1 := (h.block _ (lt_heap GY.out)).trans GY.out
    exact ⟨cell_of e0 rfl, cell_of e0 rfl, cell_of e0 rfl, cell_of e0 rfl, cell_of e0 rfl, cell_of e0 rfl, cell_of e1 rfl, cell_of e1 rfl, cell_of e1 rfl, cell_of e1 rfl, cell_of e1 rfl, cell_of e1 rfl⟩)
  have D6 := Lib.hid (fun (W' : World) (h : Below V31.heap.size V31 W') => Lib.hid (rsame_any W' _ _ _ _ x3.1 (HVX.out.below h) (HVY.out.below h) HOK3.out))
  clear c0_0 c0_1 c0_2 c0_3 c0_4 c0_5 c1_0 c1_1 c2_0 c2_1 c3_0 c3_1 c3_2 c3_3
  obtain ⟨a0, a1, a2, a3, a4, a5, b0, b1, b2, b3, b4, b5⟩ := HF.out V31 (Below.refl _ _)
  go_wp2_with fail
  refine (D6.out _ (by repeat (first | with_reducible exact Below.refl _ _ | (with_reducible refine Below.drew ?_)))).out.mono ?_
  rintro e W9 ⟨rfl, hb⟩
  have HBc : Hid (Below V31.heap.size V31 W9) := Lib.hid ((show Below V31.heap.size V31 _ from (by repeat (first | with_reducible exact Below.refl _ _ | (with_reducible refine Below.drew ?_)))).trans (hb.mono (Nat.le_refl _)))
  clear hb a0 a1 a2 a3 a4 a5 b0 b1 b2 b3 b4 b5 D6 HF
  have HBf := Lib.hid (HB1.out.trans ((HB.out.trans (HBc.out.mono HB.out.size)).mono HB1.out.size))
  go_wp2_with fail
  go_ret
  exact ⟨rfl, HBf.out⟩
end Go.Proofs.YtgaanndidcdbpaaGreat
