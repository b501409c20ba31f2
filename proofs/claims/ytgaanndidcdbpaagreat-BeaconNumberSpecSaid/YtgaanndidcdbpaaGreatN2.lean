/- The law BeaconNumberSpec. -/
import Derived.Test.YtgaanndidcdbpaaGreatU9
import Derived.Test.YtgaanndidcdbpaaGreatZM
import Derived.BigQuiet
namespace Go.Proofs.YtgaanndidcdbpaaGreat
open Go.RowKit Go.Shelf

set_option maxRecDepth 100000 in
set_option maxHeartbeats 8000000 in
theorem law2 (w : World) (M : Nat → Prop) (v : Value) (b : BeaD) (hb : IsBea w M v b) (hz : SizedB b) : Calls Tryz.prog 4 #[v] w (RetT true w) := by
  have HBE := Lib.hid hb
  obtain ⟨cA, cc, kA, kc, rA, rc, oA, oc, rfl, -⟩ := hb.parts
  have HZ := Lib.hid hz
  clear hb hz
  go_enter Tryz.func4, Tryz.ntmps4
  go_wp2_with fail
  refine nameW fun W1 hW1 => ?_
  have hb1 : Below w.heap.size w W1 := by rw [hW1.out]; exact (Below.refl _ _).alloc (Nat.le_refl _) _
  have k0 : W1.heap[w.heap.size]? = some (.cells #[.slice cA b.clubs.length cc, .int .i64 b.thr, .int .u64 (b.rng : Int), .slice kA b.coms.length kc, .slice rA b.revs.length rc, .slice oA b.opns.length oc] 28 (0, 0)) := by rw [hW1.out]; simp only [heap_alloc_if]; rw [if_pos trivial]
  have HC := Lib.hid (show ∀ W', Below W1.heap.size W1 W' → (W'.cell? ⟨w.heap.size, 0, none⟩ = some (.slice cA b.clubs.length cc) ∧ W'.cell? ⟨w.heap.size, 1, none⟩ = some (.int .i64 b.thr) ∧ W'.cell? ⟨w.heap.size, 2, none⟩ = some (.int .u64 (b.rng : Int)) ∧ W'.cell? ⟨w.heap.size, 3, none⟩ = some (.slice kA b.coms.length kc) ∧ W'.cell? ⟨w.heap.size, 4, none⟩ = some (.slice rA b.revs.length rc) ∧ W'.cell? ⟨w.heap.size, 5, none⟩ = some (.slice oA b.opns.length oc)) from fun W' h => by
    have e0 := (h.block _ (lt_heap k0)).trans k0
    exact ⟨cell_of e0 rfl, cell_of e0 rfl, cell_of e0 rfl, cell_of e0 rfl, cell_of e0 rfl, cell_of e0 rfl⟩)
  have HB1 := Lib.hid hb1
  have HB : Hid (Below W1.heap.size W1 W1) := Lib.hid (Below.refl _ _)
  clear hW1 hb1 k0
  obtain ⟨c0_0, c0_1, c0_2, c0_3, c0_4, c0_5⟩ := HC.out _ HB.out
  refine (sane_any _).mono ?_
  rintro e W9 ⟨rfl, hb⟩
  have HBn : Hid (Below W1.heap.size W1 W9) := Lib.hid ((show Below W1.heap.size W1 _ from (by repeat (first | with_reducible exact Below.refl _ _ | with_reducible exact HB.out | (with_reducible refine Below.drew ?_)))).trans (hb.mono (show W1.heap.size ≤ _ from (show Below W1.heap.size W1 _ from (by repeat (first | with_reducible exact Below.refl _ _ | with_reducible exact HB.out | (with_reducible refine Below.drew ?_)))).size)))
  clear hb HB c0_0 c0_1 c0_2 c0_3 c0_4 c0_5
  have HB := HBn
  clear HBn
  obtain ⟨c0_0, c0_1, c0_2, c0_3, c0_4, c0_5⟩ := HC.out _ HB.out
  have D1 := Lib.hid (fun (W' : World) (h : Below W1.heap.size W1 W') => Few_any W' _ _ b (HBE.out.below (HB1.out.trans (h.mono HB1.out.size))))
  obtain ⟨zf, hzf⟩ : ∃ z, z = FewD b := ⟨_, rfl⟩
  rw [← hzf] at D1
  have HZF := Lib.hid hzf
  clear hzf
  go_wp2_with fail
  refine (D1.out _ (by repeat (first | with_reducible exact Below.refl _ _ | with_reducible exact HB.out | (with_reducible refine Below.drew ?_)))).mono ?_
  rintro e W9 ⟨rfl, hb⟩
  have HBn : Hid (Below W1.heap.size W1 W9) := Lib.hid ((show Below W1.heap.size W1 _ from (by repeat (first | with_reducible exact Below.refl _ _ | with_reducible exact HB.out | (with_reducible refine Below.drew ?_)))).trans (hb.mono (show W1.heap.size ≤ _ from (show Below W1.heap.size W1 _ from (by repeat (first | with_reducible exact Below.refl _ _ | with_reducible exact HB.out | (with_reducible refine Below.drew ?_)))).size)))
  clear hb HB c0_0 c0_1 c0_2 c0_3 c0_4 c0_5
  have HB := HBn
  clear HBn
  obtain ⟨c0_0, c0_1, c0_2, c0_3, c0_4, c0_5⟩ := HC.out _ HB.out
  by_cases hf : zf = true
  case neg =>
    rw [show zf = false by simpa using hf]
    clear hf
    go_wp2_with fail
    go_ret
    exact ⟨rfl, HB1.out.trans ((show Below W1.heap.size W1 _ from (by repeat (first | with_reducible exact Below.refl _ _ | with_reducible exact HB.out | (with_reducible refine Below.drew ?_)))).mono HB1.out.size)⟩
  have HSM := Lib.hid (small_few (HZF.out.symm.trans hf) HZ.out)
  have HFL := Lib.hid (FewD_len (HZF.out.symm.trans hf))
  rw [hf]
  clear hf HZF D1
  obtain ⟨mz, hmz⟩ : ∃ z, z = missD b := ⟨_, rfl⟩
  obtain ⟨nz, hnz⟩ : ∃ z, z = numD b := ⟨_, rfl⟩
  have D2 := Lib.hid (show ∀ W', Below W1.heap.size W1 W' → Calls Tryz.prog 18 _ W' (MissE W' mz) from fun W' h => by
    have y := missing_any W' _ _ b (HBE.out.below (HB1.out.trans (h.mono HB1.out.size))) HSM.out
    rw [← hmz] at y; exact y)
  have D3 := Lib.hid (show ∀ W', Below W1.heap.size W1 W' → Calls Tryz.prog 19 _ W' (MissE W' mz) from fun W' h => by
    have y := rmissing_any W' _ _ b (HBE.out.below (HB1.out.trans (h.mono HB1.out.size))) HSM.out
    rw [← hmz] at y; exact y)
  have D4 := Lib.hid (show ∀ W', Below W1.heap.size W1 W' → Calls Tryz.prog 20 _ W' (NumE W' nz) from fun W' h => by
    have y := number2_any W' _ _ b (HBE.out.below (HB1.out.trans (h.mono HB1.out.size))) HSM.out
    rw [← hnz] at y; exact y)
  have D5 := Lib.hid (show ∀ W', Below W1.heap.size W1 W' → Calls Tryz.prog 21 _ W' (NumE W' nz) from fun W' h => by
    have y := rNumber_any W' _ _ b (HBE.out.below (HB1.out.trans (h.mono HB1.out.size))) HSM.out
    rw [← hnz] at y; exact y)
  have HML := Lib.hid (show mz.1.length ≤ 100000 by
    rw [hmz]; unfold missD; split
    · exact Nat.le_trans (missL_len _ _) (Nat.le_trans HSM.out.cl (by decide))
    · simp)
  clear hmz hnz
  obtain ⟨ml, me⟩ := mz
  obtain ⟨nv, ne⟩ := nz
  go_wp2_with fail
  refine (D2.out _ (by repeat (first | with_reducible exact Below.refl _ _ | with_reducible exact HB.out | (with_reducible refine Below.drew ?_)))).mono ?_
  rintro e W9 ⟨mv, rfl, hmv, hb⟩
  have HBn : Hid (Below W1.heap.size W1 W9) := Lib.hid ((show Below W1.heap.size W1 _ from (by repeat (first | with_reducible exact Below.refl _ _ | with_reducible exact HB.out | (with_reducible refine Below.drew ?_)))).trans (hb.mono (show W1.heap.size ≤ _ from (show Below W1.heap.size W1 _ from (by repeat (first | with_reducible exact Below.refl _ _ | with_reducible exact HB.out | (with_reducible refine Below.drew ?_)))).size)))
  clear hb HB c0_0 c0_1 c0_2 c0_3 c0_4 c0_5
  have HB := HBn
  clear HBn
  obtain ⟨c0_0, c0_1, c0_2, c0_3, c0_4, c0_5⟩ := HC.out _ HB.out
  obtain ⟨mA, mc, rfl, -⟩ := id hmv
  have HM1 := Lib.hid (IsSl.mono (M' := TT) hmv (fun _ _ _ => trivial) (by omega))
  clear hmv
  obtain ⟨Wa, hWa⟩ : ∃ W, W = W9 := ⟨_, rfl⟩
  rw [← hWa] at HM1
  have HBwWa : Hid (Below Wa.heap.size Wa W9) := Lib.hid (by rw [hWa]; exact Below.refl _ _)
  clear hWa
  go_wp2_with fail
  refine (D3.out _ (by repeat (first | with_reducible exact Below.refl _ _ | with_reducible exact HB.out | (with_reducible refine Below.drew ?_)))).mono ?_
  rintro e W9 ⟨mv, rfl, hmv, hb⟩
  have HBn : Hid (Below W1.heap.size W1 W9) := Lib.hid ((show Below W1.heap.size W1 _ from (by repeat (first | with_reducible exact Below.refl _ _ | with_reducible exact HB.out | (with_reducible refine Below.drew ?_)))).trans (hb.mono (show W1.heap.size ≤ _ from (show Below W1.heap.size W1 _ from (by repeat (first | with_reducible exact Below.refl _ _ | with_reducible exact HB.out | (with_reducible refine Below.drew ?_)))).size)))
  replace HBwWa : Hid (Below Wa.heap.size Wa W9) := Lib.hid ((show Below Wa.heap.size Wa _ from (by repeat (first | with_reducible exact Below.refl _ _ | with_reducible exact HBwWa.out | (with_reducible refine Below.drew ?_)))).trans (hb.mono (show Wa.heap.size ≤ _ from (show Below Wa.heap.size Wa _ from (by repeat (first | with_reducible exact Below.refl _ _ | with_reducible exact HBwWa.out | (with_reducible refine Below.drew ?_)))).size)))
  clear hb HB c0_0 c0_1 c0_2 c0_3 c0_4 c0_5
  have HB := HBn
  clear HBn
  obtain ⟨c0_0, c0_1, c0_2, c0_3, c0_4, c0_5⟩ := HC.out _ HB.out
  obtain ⟨nA, nc, rfl, -⟩ := id hmv
  have HM2 := Lib.hid (IsSl.mono (M' := TT) hmv (fun _ _ _ => trivial) (by omega))
  clear hmv
  obtain ⟨Wb, hWb⟩ : ∃ W, W = W9 := ⟨_, rfl⟩
  rw [← hWb] at HM2
  have HBwWb : Hid (Below Wb.heap.size Wb W9) := Lib.hid (by rw [hWb]; exact Below.refl _ _)
  clear hWb
  go_wp2_with fail
  refine (D4.out _ (by repeat (first | with_reducible exact Below.refl _ _ | with_reducible exact HB.out | (with_reducible refine Below.drew ?_)))).mono ?_
  rintro e W9 ⟨rfl, hb⟩
  have HBn : Hid (Below W1.heap.size W1 W9) := Lib.hid ((show Below W1.heap.size W1 _ from (by repeat (first | with_reducible exact Below.refl _ _ | with_reducible exact HB.out | (with_reducible refine Below.drew ?_)))).trans (hb.mono (show W1.heap.size ≤ _ from (show Below W1.heap.size W1 _ from (by repeat (first | with_reducible exact Below.refl _ _ | with_reducible exact HB.out | (with_reducible refine Below.drew ?_)))).size)))
  replace HBwWa : Hid (Below Wa.heap.size Wa W9) := Lib.hid ((show Below Wa.heap.size Wa _ from (by repeat (first | with_reducible exact Below.refl _ _ | with_reducible exact HBwWa.out | (with_reducible refine Below.drew ?_)))).trans (hb.mono (show Wa.heap.size ≤ _ from (show Below Wa.heap.size Wa _ from (by repeat (first | with_reducible exact Below.refl _ _ | with_reducible exact HBwWa.out | (with_reducible refine Below.drew ?_)))).size)))
  replace HBwWb : Hid (Below Wb.heap.size Wb W9) := Lib.hid ((show Below Wb.heap.size Wb _ from (by repeat (first | with_reducible exact Below.refl _ _ | with_reducible exact HBwWb.out | (with_reducible refine Below.drew ?_)))).trans (hb.mono (show Wb.heap.size ≤ _ from (show Below Wb.heap.size Wb _ from (by repeat (first | with_reducible exact Below.refl _ _ | with_reducible exact HBwWb.out | (with_reducible refine Below.drew ?_)))).size)))
  clear hb HB c0_0 c0_1 c0_2 c0_3 c0_4 c0_5
  have HB := HBn
  clear HBn
  obtain ⟨c0_0, c0_1, c0_2, c0_3, c0_4, c0_5⟩ := HC.out _ HB.out
  go_wp2_with fail
  refine (D5.out _ (by repeat (first | with_reducible exact Below.refl _ _ | with_reducible exact HB.out | (with_reducible refine Below.drew ?_)))).mono ?_
  rintro e W9 ⟨rfl, hb⟩
  have HBn : Hid (Below W1.heap.size W1 W9) := Lib.hid ((show Below W1.heap.size W1 _ from (by repeat (first | with_reducible exact Below.refl _ _ | with_reducible exact HB.out | (with_reducible refine Below.drew ?_)))).trans (hb.mono (show W1.heap.size ≤ _ from (show Below W1.heap.size W1 _ from (by repeat (first | with_reducible exact Below.refl _ _ | with_reducible exact HB.out | (with_reducible refine Below.drew ?_)))).size)))
  replace HBwWa : Hid (Below Wa.heap.size Wa W9) := Lib.hid ((show Below Wa.heap.size Wa _ from (by repeat (first | with_reducible exact Below.refl _ _ | with_reducible exact HBwWa.out | (with_reducible refine Below.drew ?_)))).trans (hb.mono (show Wa.heap.size ≤ _ from (show Below Wa.heap.size Wa _ from (by repeat (first | with_reducible exact Below.refl _ _ | with_reducible exact HBwWa.out | (with_reducible refine Below.drew ?_)))).size)))
  replace HBwWb : Hid (Below Wb.heap.size Wb W9) := Lib.hid ((show Below Wb.heap.size Wb _ from (by repeat (first | with_reducible exact Below.refl _ _ | with_reducible exact HBwWb.out | (with_reducible refine Below.drew ?_)))).trans (hb.mono (show Wb.heap.size ≤ _ from (show Below Wb.heap.size Wb _ from (by repeat (first | with_reducible exact Below.refl _ _ | with_reducible exact HBwWb.out | (with_reducible refine Below.drew ?_)))).size)))
  clear hb HB c0_0 c0_1 c0_2 c0_3 c0_4 c0_5
  have HB := HBn
  clear HBn
  obtain ⟨c0_0, c0_1, c0_2, c0_3, c0_4, c0_5⟩ := HC.out _ HB.out
  have D6 := Lib.hid (sameInts_any W9 _ _ _ _ ml ml (IsSl.below HM1.out HBwWa.out) (IsSl.below HM2.out HBwWb.out) HML.out)
  rw [show decide (ml = ml) = true from decide_eq_true rfl] at D6
  have t1 : (me == me) = true := by simp
  have t2 : ((nv : Int) == (nv : Int)) = true := by simp
  have t3 : (ne == ne) = true := by simp
  clear c0_0 c0_1 c0_2 c0_3 c0_4 c0_5
  go_wp2_with fail
  refine D6.out.mono ?_
  rintro e W10 ⟨rfl, hb⟩
  have HBf := Lib.hid (HB1.out.trans ((HB.out.trans (hb.mono HB.out.size)).mono HB1.out.size))
  clear hb HB
  go_wp2_with fail
  go_ret
  exact ⟨rfl, HBf.out⟩
end Go.Proofs.YtgaanndidcdbpaaGreat
