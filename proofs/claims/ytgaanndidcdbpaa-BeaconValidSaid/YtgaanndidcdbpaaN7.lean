/- The law BeaconValid. -/
import Derived.Test.YtgaanndidcdbpaaZM
import Derived.BigQuiet
namespace Go.Proofs.Ytgaanndidcdbpaa
open Go.RowKit Go.Shelf

set_option maxRecDepth 100000 in
set_option maxHeartbeats 8000000 in
theorem law7 (w : World) (M M' : Nat → Prop) (v u : Value) (b : BeaD) (c : ComD) (r : RevD) (o : OpnD) (hb : IsBea w M v b) (hz : SizedB b) (hc : IsCom w M' u c) (hcw : W64 c.club ∧ U64s c.checks ∧ c.checks.length ≤ 140737488355328) (hrw : W64 r.club ∧ r.num < 18446744073709551616) (how : W64 o.club ∧ W64 o.frm ∧ o.sh.1 < 18446744073709551616 ∧ o.sh.2 < 18446744073709551616) :
    Calls Try.prog 7 #[v, u, .agg #[.int .i64 r.club, .int .u64 (r.num : Int)], .agg #[.int .i64 o.club, .int .i64 o.frm, .int .u64 (o.sh.1 : Int), .int .u64 (o.sh.2 : Int)]] w (RetT true w) := by
  have HBE := Lib.hid (IsBea.mono (M' := fun q => q < w.heap.size) hb (fun q h _ => h))
  obtain ⟨uv, rfl, hu⟩ := hc
  have HU := Lib.hid (IsSl.mono (M' := fun q => q < w.heap.size) hu (fun q h _ => h) (by omega))
  obtain ⟨uA, uc, rfl, -⟩ := hu
  obtain ⟨cA, cc, kA, kc, rA, rc, oA, oc, rfl, -⟩ := hb.parts
  have HZ := Lib.hid hz
  have HCW := Lib.hid hcw
  have HRW := Lib.hid hrw
  have HOW := Lib.hid how
  clear hb hz hcw hrw how
  go_enter Try.func7, Try.ntmps7
  go_wp2_with fail
  refine nameW fun W1 hW1 => ?_
  have hb1 : Below w.heap.size w W1 := by rw [hW1.out]; exact ((((Below.refl _ _).alloc (Nat.le_refl _) _).alloc (by simp) _).alloc (by simp; omega) _).alloc (by simp; omega) _
  have k0 : W1.heap[w.heap.size]? = some (.cells #[.slice cA b.clubs.length cc, .int .i64 b.thr, .int .u64 (b.rng : Int), .slice kA b.coms.length kc, .slice rA b.revs.length rc, .slice oA b.opns.length oc] 32 (0, 0)) := by rw [hW1.out]; simp only [heap_alloc_if, World.size_alloc]; rw [if_neg (by omega)]; rw [if_neg (by omega)]; rw [if_neg (by omega)]; rw [if_pos trivial]
  have k1 : W1.heap[w.heap.size + 1]? = some (.cells #[.int .i64 c.club, .slice uA c.checks.length uc] 64 (0, 0)) := by rw [hW1.out]; simp only [heap_alloc_if, World.size_alloc]; rw [if_neg (by omega)]; rw [if_neg (by omega)]; rw [if_pos trivial]
  have k2 : W1.heap[w.heap.size + 1 + 1]? = some (.cells #[.int .i64 r.club, .int .u64 (r.num : Int)] 52 (0, 0)) := by rw [hW1.out]; simp only [heap_alloc_if, World.size_alloc]; rw [if_neg (by omega)]; rw [if_pos trivial]
  have k3 : W1.heap[w.heap.size + 1 + 1 + 1]? = some (.cells #[.int .i64 o.club, .int .i64 o.frm, .int .u64 (o.sh.1 : Int), .int .u64 (o.sh.2 : Int)] 61 (0, 0)) := by rw [hW1.out]; simp only [heap_alloc_if, World.size_alloc]; rw [if_pos trivial]
  obtain ⟨B3, hB3⟩ : ∃ B, B = w.heap.size + 1 + 1 + 1 := ⟨_, rfl⟩
  rw [← hB3] at k3 ⊢
  clear hB3
  obtain ⟨B2, hB2⟩ : ∃ B, B = w.heap.size + 1 + 1 := ⟨_, rfl⟩
  rw [← hB2] at k2 ⊢
  clear hB2
  obtain ⟨B1, hB1⟩ : ∃ B, B = w.heap.size + 1 := ⟨_, rfl⟩
  rw [← hB1] at k1 ⊢
  clear hB1
  have HC := Lib.hid (show ∀ W', Below W1.heap.size W1 W' → (W'.cell? ⟨w.heap.size, 0, none⟩ = some (.slice cA b.clubs.length cc) ∧ W'.cell? ⟨w.heap.size, 1, none⟩ = some (.int .i64 b.thr) ∧ W'.cell? ⟨w.heap.size, 2, none⟩ = some (.int .u64 (b.rng : Int)) ∧ W'.cell? ⟨w.heap.size, 3, none⟩ = some (.slice kA b.coms.length kc) ∧ W'.cell? ⟨w.heap.size, 4, none⟩ = some (.slice rA b.revs.length rc) ∧ W'.cell? ⟨w.heap.size, 5, none⟩ = some (.slice oA b.opns.length oc) ∧ W'.cell? ⟨B1, 0, none⟩ = some (.int .i64 c.club) ∧ W'.cell? ⟨B1, 1, none⟩ = some (.slice uA c.checks.length uc) ∧ W'.cell? ⟨B2, 0, none⟩ = some (.int .i64 r.club) ∧ W'.cell? ⟨B2, 1, none⟩ = some (.int .u64 (r.num : Int)) ∧ W'.cell? ⟨B3, 0, none⟩ = some (.int .i64 o.club) ∧ W'.cell? ⟨B3, 1, none⟩ = some (.int .i64 o.frm) ∧ W'.cell? ⟨B3, 2, none⟩ = some (.int .u64 (o.sh.1 : Int)) ∧ W'.cell? ⟨B3, 3, none⟩ = some (.int .u64 (o.sh.2 : Int))) from fun W' h => by
    have e0 := (h.block _ (lt_heap k0)).trans k0
    have e1 := (h.block _ (lt_heap k1)).trans k1
    have e2 := (h.block _ (lt_heap k2)).trans k2
    have e3 := (h.block _ (lt_heap k3)).trans k3
    exact ⟨cell_of e0 rfl, cell_of e0 rfl, cell_of e0 rfl, cell_of e0 rfl, cell_of e0 rfl, cell_of e0 rfl, cell_of e1 rfl, cell_of e1 rfl, cell_of e2 rfl, cell_of e2 rfl, cell_of e3 rfl, cell_of e3 rfl, cell_of e3 rfl, cell_of e3 rfl⟩)
  have HB1 := Lib.hid hb1
  have HB : Hid (Below W1.heap.size W1 W1) := Lib.hid (Below.refl _ _)
  clear hW1 hb1 k0 k1 k2 k3
  obtain ⟨c0_0, c0_1, c0_2, c0_3, c0_4, c0_5, c1_0, c1_1, c2_0, c2_1, c3_0, c3_1, c3_2, c3_3⟩ := HC.out _ HB.out
  refine (sane_any _).mono ?_
  rintro e W9 ⟨rfl, hb⟩
  have HBn : Hid (Below W1.heap.size W1 W9) := Lib.hid ((show Below W1.heap.size W1 _ from (by repeat (first | with_reducible exact Below.refl _ _ | with_reducible exact HB.out | (with_reducible refine Below.drew ?_)))).trans (hb.mono (show W1.heap.size ≤ _ from (show Below W1.heap.size W1 _ from (by repeat (first | with_reducible exact Below.refl _ _ | with_reducible exact HB.out | (with_reducible refine Below.drew ?_)))).size)))
  clear hb HB c0_0 c0_1 c0_2 c0_3 c0_4 c0_5 c1_0 c1_1 c2_0 c2_1 c3_0 c3_1 c3_2 c3_3
  have HB := HBn
  clear HBn
  obtain ⟨c0_0, c0_1, c0_2, c0_3, c0_4, c0_5, c1_0, c1_1, c2_0, c2_1, c3_0, c3_1, c3_2, c3_3⟩ := HC.out _ HB.out
  have D1 := Lib.hid (fun (W' : World) (h : Below W1.heap.size W1 W') => Few_any W' _ _ b (HBE.out.below (HB1.out.trans (h.mono HB1.out.size))))
  obtain ⟨zf, hzf⟩ : ∃ z, z = FewD b := ⟨_, rfl⟩
  rw [← hzf] at D1
  have HZF := Lib.hid hzf
  clear hzf
  go_wp2_with fail
  refine (D1.out _ (by repeat (first | with_reducible exact Below.refl _ _ | with_reducible exact HB.out | (with_reducible refine Below.drew ?_)))).mono ?_
  rintro e W9 ⟨rfl, hb⟩
  have HBn : Hid (Below W1.heap.size W1 W9) := Lib.hid ((show Below W1.heap.size W1 _ from (by repeat (first | with_reducible exact Below.refl _ _ | with_reducible exact HB.out | (with_reducible refine Below.drew ?_)))).trans (hb.mono (show W1.heap.size ≤ _ from (show Below W1.heap.size W1 _ from (by repeat (first | with_reducible exact Below.refl _ _ | with_reducible exact HB.out | (with_reducible refine Below.drew ?_)))).size)))
  clear hb HB c0_0 c0_1 c0_2 c0_3 c0_4 c0_5 c1_0 c1_1 c2_0 c2_1 c3_0 c3_1 c3_2 c3_3
  have HB := HBn
  clear HBn
  obtain ⟨c0_0, c0_1, c0_2, c0_3, c0_4, c0_5, c1_0, c1_1, c2_0, c2_1, c3_0, c3_1, c3_2, c3_3⟩ := HC.out _ HB.out
  by_cases hf : zf = true
  case neg =>
    rw [show zf = false by simpa using hf]
    clear hf
    go_wp2_with fail
    go_ret
    exact ⟨rfl, HB1.out.trans ((show Below W1.heap.size W1 _ from (by repeat (first | with_reducible exact Below.refl _ _ | with_reducible exact HB.out | (with_reducible refine Below.drew ?_)))).mono HB1.out.size)⟩
  have HSM := Lib.hid (small_few (HZF.out.symm.trans hf) HZ.out)
  have HFL := Lib.hid (FewD_len (HZF.out.symm.trans hf))
  rw [hf]
  clear hf HZF D1
  by_cases h8 : c.checks.length ≤ 8
  case neg =>
    have h8b : (8 : Int) < (c.checks.length : Int) := by omega
    clear h8
    go_wp2_with fail
    go_ret
    exact ⟨rfl, HB1.out.trans ((show Below W1.heap.size W1 _ from (by repeat (first | with_reducible exact Below.refl _ _ | with_reducible exact HB.out | (with_reducible refine Below.drew ?_)))).mono HB1.out.size)⟩
  have h8b : ¬ (8 : Int) < (c.checks.length : Int) := by omega
  clear h8
  obtain ⟨z, hz⟩ : ∃ z, z = chkD b := ⟨_, rfl⟩
  have HCZ := Lib.hid hz
  have D2 := Lib.hid (show ∀ W', Below W1.heap.size W1 W' → Calls Try.prog 19 _ W' (RetE z W') from fun W' h => by
    have y := bcheck_any W' _ _ b (HBE.out.below (HB1.out.trans (h.mono HB1.out.size))) HSM.out
    rw [← hz] at y; exact y)
  clear hz
  go_wp2_with fail
  refine (D2.out _ (by repeat (first | with_reducible exact Below.refl _ _ | with_reducible exact HB.out | (with_reducible refine Below.drew ?_)))).mono ?_
  rintro e W9 ⟨rfl, hb⟩
  have HBn : Hid (Below W1.heap.size W1 W9) := Lib.hid ((show Below W1.heap.size W1 _ from (by repeat (first | with_reducible exact Below.refl _ _ | with_reducible exact HB.out | (with_reducible refine Below.drew ?_)))).trans (hb.mono (show W1.heap.size ≤ _ from (show Below W1.heap.size W1 _ from (by repeat (first | with_reducible exact Below.refl _ _ | with_reducible exact HB.out | (with_reducible refine Below.drew ?_)))).size)))
  clear hb HB c0_0 c0_1 c0_2 c0_3 c0_4 c0_5 c1_0 c1_1 c2_0 c2_1 c3_0 c3_1 c3_2 c3_3
  have HB := HBn
  clear HBn
  obtain ⟨c0_0, c0_1, c0_2, c0_3, c0_4, c0_5, c1_0, c1_1, c2_0, c2_1, c3_0, c3_1, c3_2, c3_3⟩ := HC.out _ HB.out
  have D3 := Lib.hid (fun (W' : World) (h : Below W1.heap.size W1 W') => missing_any W' _ _ b (HBE.out.below (HB1.out.trans (h.mono HB1.out.size))) HSM.out)
  go_wp2_with fail
  refine (D3.out _ (by repeat (first | with_reducible exact Below.refl _ _ | with_reducible exact HB.out | (with_reducible refine Below.drew ?_)))).mono ?_
  rintro e W9 ⟨mv, rfl, hmv, hb⟩
  have HBn : Hid (Below W1.heap.size W1 W9) := Lib.hid ((show Below W1.heap.size W1 _ from (by repeat (first | with_reducible exact Below.refl _ _ | with_reducible exact HB.out | (with_reducible refine Below.drew ?_)))).trans (hb.mono (show W1.heap.size ≤ _ from (show Below W1.heap.size W1 _ from (by repeat (first | with_reducible exact Below.refl _ _ | with_reducible exact HB.out | (with_reducible refine Below.drew ?_)))).size)))
  clear hb HB c0_0 c0_1 c0_2 c0_3 c0_4 c0_5 c1_0 c1_1 c2_0 c2_1 c3_0 c3_1 c3_2 c3_3
  have HB := HBn
  clear HBn
  obtain ⟨c0_0, c0_1, c0_2, c0_3, c0_4, c0_5, c1_0, c1_1, c2_0, c2_1, c3_0, c3_1, c3_2, c3_3⟩ := HC.out _ HB.out
  obtain ⟨mA, mc, rfl, -⟩ := hmv
  obtain ⟨lb, hlb⟩ : ∃ n, n = (missD b).1.length := ⟨_, rfl⟩
  have HLB := Lib.hid hlb
  rw [← hlb, missD_chk, ← HCZ.out]
  clear hlb D2 D3
  have tz : ((z == 0) != (z == 0)) = false := by simp
  have D4 := Lib.hid (show ∀ W', Below W1.heap.size W1 W' → Calls Try.prog 20 _ W' (BeaE W' TT (bzD b c r o 0)) from fun W' h => (commit_any W' _ _ _ _ b c (HBE.out.below (HB1.out.trans (h.mono HB1.out.size))) HSM.out ⟨_, rfl, IsSl.below HU.out (HB1.out.trans (h.mono HB1.out.size))⟩ HCW.out.1 HCW.out.2.2).mono fun e w' ⟨v, q1, q2, q3⟩ => ⟨v, q1, IsBea.mono q2 (fun _ _ _ => trivial), q3⟩)
  go_wp2_with fail
  refine (D4.out _ (by repeat (first | with_reducible exact Below.refl _ _ | with_reducible exact HB.out | (with_reducible refine Below.drew ?_)))).mono ?_
  rintro e W9 ⟨bv, rfl, hbv, hb⟩
  have HBn : Hid (Below W1.heap.size W1 W9) := Lib.hid ((show Below W1.heap.size W1 _ from (by repeat (first | with_reducible exact Below.refl _ _ | with_reducible exact HB.out | (with_reducible refine Below.drew ?_)))).trans (hb.mono (show W1.heap.size ≤ _ from (show Below W1.heap.size W1 _ from (by repeat (first | with_reducible exact Below.refl _ _ | with_reducible exact HB.out | (with_reducible refine Below.drew ?_)))).size)))
  clear hb HB c0_0 c0_1 c0_2 c0_3 c0_4 c0_5 c1_0 c1_1 c2_0 c2_1 c3_0 c3_1 c3_2 c3_3
  have HB := HBn
  clear HBn
  obtain ⟨c0_0, c0_1, c0_2, c0_3, c0_4, c0_5, c1_0, c1_1, c2_0, c2_1, c3_0, c3_1, c3_2, c3_3⟩ := HC.out _ HB.out
  obtain ⟨x0, hx0⟩ : ∃ z, z = bzD b c r o 0 := ⟨_, rfl⟩
  have HX0 := Lib.hid hx0
  rw [← hx0] at hbv ⊢
  clear hx0 D4
  obtain ⟨p0A, p0c, q0A, q0c, s0A, s0c, t0A, t0c, rfl, -⟩ := hbv.parts
  have HV0 := Lib.hid (IsBea.mono (M' := TT) hbv (fun _ _ _ => trivial))
  obtain ⟨e0, he0⟩ : ∃ z, z = x0.2 := ⟨_, rfl⟩
  have HE0 := Lib.hid he0
  rw [← he0]
  clear hbv he0 c0_0 c0_1 c0_2 c0_3 c0_4 c0_5 c1_0 c1_1 c2_0 c2_1 c3_0 c3_1 c3_2 c3_3
  go_upto_region 10 with fail
  refine nameC fun W20 hW20 => ?_
  have hb20 : Below W9.heap.size W9 W20 := by rw [hW20.out]; exact (Below.refl _ _).alloc (Nat.le_refl _) _
  have G0 := Lib.hid (show W20.heap[W9.heap.size]? = some (.cells #[.slice p0A x0.1.clubs.length p0c, .int .i64 x0.1.thr, .int .u64 (x0.1.rng : Int), .slice q0A x0.1.coms.length q0c, .slice s0A x0.1.revs.length s0c, .slice t0A x0.1.opns.length t0c] 32 (0, 0)) by rw [hW20.out]; exact heap_alloc_new _ _)
  obtain ⟨g0, hg0⟩ : ∃ g, g = W9.heap.size := ⟨_, rfl⟩
  rw [← hg0] at G0 ⊢
  replace HV0 := Lib.hid (HV0.out.below hb20)
  replace HB := Lib.hid (HB.out.trans (hb20.mono HB.out.size))
  clear hW20 hb20 hg0
  have HBwW20 : Hid (Below W20.heap.size W20 W20) := Lib.hid (Below.refl _ _)
  have HK0 := Lib.hid (show ∀ W', Below W20.heap.size W20 W' → W'.heap[g0]? = some (.cells #[.slice p0A x0.1.clubs.length p0c, .int .i64 x0.1.thr, .int .u64 (x0.1.rng : Int), .slice q0A x0.1.coms.length q0c, .slice s0A x0.1.revs.length s0c, .slice t0A x0.1.opns.length t0c] 32 (0, 0)) ∧ IsBea W' TT (.agg #[.slice p0A x0.1.clubs.length p0c, .int .i64 x0.1.thr, .int .u64 (x0.1.rng : Int), .slice q0A x0.1.coms.length q0c, .slice s0A x0.1.revs.length s0c, .slice t0A x0.1.opns.length t0c]) x0.1 from fun W' h => ⟨(h.block _ (lt_heap G0.out)).trans G0.out, HV0.out.below h⟩)
  clear G0 HV0
  obtain ⟨c0_0, c0_1, c0_2, c0_3, c0_4, c0_5, c1_0, c1_1, c2_0, c2_1, c3_0, c3_1, c3_2, c3_3⟩ := HC.out _ HB.out
  have D4 := Lib.hid (show ∀ W', Below W1.heap.size W1 W' → Calls Try.prog 15 _ W' (BeaE W' TT (bzD b c r o 1)) from fun W' h => (reveal_any W' _ _ b r (HBE.out.below (HB1.out.trans (h.mono HB1.out.size))) HSM.out HRW.out.1 HRW.out.2).mono fun e w' ⟨v, q1, q2, q3⟩ => ⟨v, q1, IsBea.mono q2 (fun _ _ _ => trivial), q3⟩)
  go_wp2_with fail
  refine (D4.out _ (by repeat (first | with_reducible exact Below.refl _ _ | with_reducible exact HB.out | (with_reducible refine Below.drew ?_)))).mono ?_
  rintro e W9 ⟨bv, rfl, hbv, hb⟩
  have HBn : Hid (Below W1.heap.size W1 W9) := Lib.hid ((show Below W1.heap.size W1 _ from (by repeat (first | with_reducible exact Below.refl _ _ | with_reducible exact HB.out | (with_reducible refine Below.drew ?_)))).trans (hb.mono (show W1.heap.size ≤ _ from (show Below W1.heap.size W1 _ from (by repeat (first | with_reducible exact Below.refl _ _ | with_reducible exact HB.out | (with_reducible refine Below.drew ?_)))).size)))
  replace HBwW20 : Hid (Below W20.heap.size W20 W9) := Lib.hid ((show Below W20.heap.size W20 _ from (by repeat (first | with_reducible exact Below.refl _ _ | with_reducible exact HBwW20.out | (with_reducible refine Below.drew ?_)))).trans (hb.mono (show W20.heap.size ≤ _ from (show Below W20.heap.size W20 _ from (by repeat (first | with_reducible exact Below.refl _ _ | with_reducible exact HBwW20.out | (with_reducible refine Below.drew ?_)))).size)))
  clear hb HB c0_0 c0_1 c0_2 c0_3 c0_4 c0_5 c1_0 c1_1 c2_0 c2_1 c3_0 c3_1 c3_2 c3_3
  have HB := HBn
  clear HBn
  obtain ⟨c0_0, c0_1, c0_2, c0_3, c0_4, c0_5, c1_0, c1_1, c2_0, c2_1, c3_0, c3_1, c3_2, c3_3⟩ := HC.out _ HB.out
  obtain ⟨x1, hx1⟩ : ∃ z, z = bzD b c r o 1 := ⟨_, rfl⟩
  have HX1 := Lib.hid hx1
  rw [← hx1] at hbv ⊢
  clear hx1 D4
  obtain ⟨p1A, p1c, q1A, q1c, s1A, s1c, t1A, t1c, rfl, -⟩ := hbv.parts
  have HV1 := Lib.hid (IsBea.mono (M' := TT) hbv (fun _ _ _ => trivial))
  obtain ⟨e1, he1⟩ : ∃ z, z = x1.2 := ⟨_, rfl⟩
  have HE1 := Lib.hid he1
  rw [← he1]
  clear hbv he1 c0_0 c0_1 c0_2 c0_3 c0_4 c0_5 c1_0 c1_1 c2_0 c2_1 c3_0 c3_1 c3_2 c3_3
  go_upto_region 11 with fail
  refine nameC fun W21 hW21 => ?_
  have hb21 : Below W9.heap.size W9 W21 := by rw [hW21.out]; exact (Below.refl _ _).alloc (Nat.le_refl _) _
  have G1 := Lib.hid (show W21.heap[W9.heap.size]? = some (.cells #[.slice p1A x1.1.clubs.length p1c, .int .i64 x1.1.thr, .int .u64 (x1.1.rng : Int), .slice q1A x1.1.coms.length q1c, .slice s1A x1.1.revs.length s1c, .slice t1A x1.1.opns.length t1c] 32 (0, 0)) by rw [hW21.out]; exact heap_alloc_new _ _)
  obtain ⟨g1, hg1⟩ : ∃ g, g = W9.heap.size := ⟨_, rfl⟩
  rw [← hg1] at G1 ⊢
  replace HV1 := Lib.hid (HV1.out.below hb21)
  replace HB := Lib.hid (HB.out.trans (hb21.mono HB.out.size))
  replace HBwW20 := Lib.hid (HBwW20.out.trans (hb21.mono HBwW20.out.size))
  clear hW21 hb21 hg1
  have HBwW21 : Hid (Below W21.heap.size W21 W21) := Lib.hid (Below.refl _ _)
  have HK1 := Lib.hid (show ∀ W', Below W21.heap.size W21 W' → W'.heap[g1]? = some (.cells #[.slice p1A x1.1.clubs.length p1c, .int .i64 x1.1.thr, .int .u64 (x1.1.rng : Int), .slice q1A x1.1.coms.length q1c, .slice s1A x1.1.revs.length s1c, .slice t1A x1.1.opns.length t1c] 32 (0, 0)) ∧ IsBea W' TT (.agg #[.slice p1A x1.1.clubs.length p1c, .int .i64 x1.1.thr, .int .u64 (x1.1.rng : Int), .slice q1A x1.1.coms.length q1c, .slice s1A x1.1.revs.length s1c, .slice t1A x1.1.opns.length t1c]) x1.1 from fun W' h => ⟨(h.block _ (lt_heap G1.out)).trans G1.out, HV1.out.below h⟩)
  clear G1 HV1
  obtain ⟨c0_0, c0_1, c0_2, c0_3, c0_4, c0_5, c1_0, c1_1, c2_0, c2_1, c3_0, c3_1, c3_2, c3_3⟩ := HC.out _ HB.out
  have D4 := Lib.hid (show ∀ W', Below W1.heap.size W1 W' → Calls Try.prog 17 _ W' (BeaE W' TT (bzD b c r o 2)) from fun W' h => (openS_any W' _ _ b o (HBE.out.below (HB1.out.trans (h.mono HB1.out.size))) HSM.out HOW.out.1 HOW.out.2.1).mono fun e w' ⟨v, q1, q2, q3⟩ => ⟨v, q1, IsBea.mono q2 (fun _ _ _ => trivial), q3⟩)
  go_wp2_with fail
  refine (D4.out _ (by repeat (first | with_reducible exact Below.refl _ _ | with_reducible exact HB.out | (with_reducible refine Below.drew ?_)))).mono ?_
  rintro e W9 ⟨bv, rfl, hbv, hb⟩
  have HBn : Hid (Below W1.heap.size W1 W9) := Lib.hid ((show Below W1.heap.size W1 _ from (by repeat (first | with_reducible exact Below.refl _ _ | with_reducible exact HB.out | (with_reducible refine Below.drew ?_)))).trans (hb.mono (show W1.heap.size ≤ _ from (show Below W1.heap.size W1 _ from (by repeat (first | with_reducible exact Below.refl _ _ | with_reducible exact HB.out | (with_reducible refine Below.drew ?_)))).size)))
  replace HBwW20 : Hid (Below W20.heap.size W20 W9) := Lib.hid ((show Below W20.heap.size W20 _ from (by repeat (first | with_reducible exact Below.refl _ _ | with_reducible exact HBwW20.out | (with_reducible refine Below.drew ?_)))).trans (hb.mono (show W20.heap.size ≤ _ from (show Below W20.heap.size W20 _ from (by repeat (first | with_reducible exact Below.refl _ _ | with_reducible exact HBwW20.out | (with_reducible refine Below.drew ?_)))).size)))
  replace HBwW21 : Hid (Below W21.heap.size W21 W9) := Lib.hid ((show Below W21.heap.size W21 _ from (by repeat (first | with_reducible exact Below.refl _ _ | with_reducible exact HBwW21.out | (with_reducible refine Below.drew ?_)))).trans (hb.mono (show W21.heap.size ≤ _ from (show Below W21.heap.size W21 _ from (by repeat (first | with_reducible exact Below.refl _ _ | with_reducible exact HBwW21.out | (with_reducible refine Below.drew ?_)))).size)))
  clear hb HB c0_0 c0_1 c0_2 c0_3 c0_4 c0_5 c1_0 c1_1 c2_0 c2_1 c3_0 c3_1 c3_2 c3_3
  have HB := HBn
  clear HBn
  obtain ⟨c0_0, c0_1, c0_2, c0_3, c0_4, c0_5, c1_0, c1_1, c2_0, c2_1, c3_0, c3_1, c3_2, c3_3⟩ := HC.out _ HB.out
  obtain ⟨x2, hx2⟩ : ∃ z, z = bzD b c r o 2 := ⟨_, rfl⟩
  have HX2 := Lib.hid hx2
  rw [← hx2] at hbv ⊢
  clear hx2 D4
  obtain ⟨p2A, p2c, q2A, q2c, s2A, s2c, t2A, t2c, rfl, -⟩ := hbv.parts
  have HV2 := Lib.hid (IsBea.mono (M' := TT) hbv (fun _ _ _ => trivial))
  obtain ⟨e2, he2⟩ : ∃ z, z = x2.2 := ⟨_, rfl⟩
  have HE2 := Lib.hid he2
  rw [← he2]
  clear hbv he2 c0_0 c0_1 c0_2 c0_3 c0_4 c0_5 c1_0 c1_1 c2_0 c2_1 c3_0 c3_1 c3_2 c3_3
  go_upto_region 12 with fail
  refine nameC fun W22 hW22 => ?_
  have hb22 : Below W9.heap.size W9 W22 := by rw [hW22.out]; exact (Below.refl _ _).alloc (Nat.le_refl _) _
  have G2 := Lib.hid (show W22.heap[W9.heap.size]? = some (.cells #[.slice p2A x2.1.clubs.length p2c, .int .i64 x2.1.thr, .int .u64 (x2.1.rng : Int), .slice q2A x2.1.coms.length q2c, .slice s2A x2.1.revs.length s2c, .slice t2A x2.1.opns.length t2c] 32 (0, 0)) by rw [hW22.out]; exact heap_alloc_new _ _)
  obtain ⟨g2, hg2⟩ : ∃ g, g = W9.heap.size := ⟨_, rfl⟩
  rw [← hg2] at G2 ⊢
  replace HV2 := Lib.hid (HV2.out.below hb22)
  replace HB := Lib.hid (HB.out.trans (hb22.mono HB.out.size))
  replace HBwW20 := Lib.hid (HBwW20.out.trans (hb22.mono HBwW20.out.size))
  replace HBwW21 := Lib.hid (HBwW21.out.trans (hb22.mono HBwW21.out.size))
  clear hW22 hb22 hg2
  have HBwW22 : Hid (Below W22.heap.size W22 W22) := Lib.hid (Below.refl _ _)
  have HK2 := Lib.hid (show ∀ W', Below W22.heap.size W22 W' → W'.heap[g2]? = some (.cells #[.slice p2A x2.1.clubs.length p2c, .int .i64 x2.1.thr, .int .u64 (x2.1.rng : Int), .slice q2A x2.1.coms.length q2c, .slice s2A x2.1.revs.length s2c, .slice t2A x2.1.opns.length t2c] 32 (0, 0)) ∧ IsBea W' TT (.agg #[.slice p2A x2.1.clubs.length p2c, .int .i64 x2.1.thr, .int .u64 (x2.1.rng : Int), .slice q2A x2.1.coms.length q2c, .slice s2A x2.1.revs.length s2c, .slice t2A x2.1.opns.length t2c]) x2.1 from fun W' h => ⟨(h.block _ (lt_heap G2.out)).trans G2.out, HV2.out.below h⟩)
  clear G2 HV2
  obtain ⟨c0_0, c0_1, c0_2, c0_3, c0_4, c0_5, c1_0, c1_1, c2_0, c2_1, c3_0, c3_1, c3_2, c3_3⟩ := HC.out _ HB.out
  have HXE := Lib.hid (show e0 = (bzD b c r o 0).2 ∧ e1 = (bzD b c r o 1).2 ∧ e2 = (bzD b c r o 2).2 from ⟨by rw [HE0.out, HX0.out], by rw [HE1.out, HX1.out], by rw [HE2.out, HX2.out]⟩)
  by_cases hz0 : z = 0
  case neg =>
    have hne : chkD b ≠ 0 := by rw [← HCZ.out]; exact hz0
    obtain rfl : e0 = z := by rw [HXE.out.1, valid_no hne, HCZ.out]
    obtain rfl : e1 = e0 := by rw [HXE.out.2.1, valid_no hne, HCZ.out]
    obtain rfl : e2 = e1 := by rw [HXE.out.2.2, valid_no hne, HCZ.out]
    have t1 : (e2 == 0) = false := by simp [hz0]
    have t2 : (e2 != 0) = true := by simp [hz0]
    clear hz0 hne tz
    go_wp2_with fail
    go_ret
    exact ⟨rfl, HB1.out.trans ((show Below W1.heap.size W1 _ from (by repeat (first | with_reducible exact Below.refl _ _ | with_reducible exact HB.out | (with_reducible refine Below.drew ?_)))).mono HB1.out.size)⟩
  have hch : chkD b = 0 := by rw [← HCZ.out]; exact hz0
  have HVF := Lib.hid (valid_full (c := c) (r := r) (o := o) hch)
  have HVS := Lib.hid (fun k => valid_step (c := c) (r := r) (o := o) hch k)
  have HVM := Lib.hid (fun k => valid_small (c := c) (r := r) (o := o) HSM.out ⟨by have := HFL.out; omega, by have := HFL.out; omega, by have := HFL.out; omega⟩ HCW.out HRW.out HOW.out k)
  have t1 : (z == 0) = true := by simp [hz0]
  clear hz0 hch tz
  go_upto_region 15 with fail
  obtain ⟨fu, hfu⟩ : ∃ p, p = ((b.coms.length : Int) == (b.clubs.length : Int)) := ⟨_, rfl⟩
  have HFU := Lib.hid hfu
  rw [← hfu]
  clear hfu t1
  go_cut [99] (fun s99 W => s99 = .bool false ∧ W = W22)
  case first =>
    cases hfc : fu with
    | true =>
      have hfl : b.coms.length = b.clubs.length := by have := HFU.out; rw [hfc] at this; have := beq_iff_eq.1 this.symm; omega
      have t2 : (e0 == 0) = false := by rw [beq_eq_false_iff_ne, HXE.out.1]; exact HVF.out.1 hfl
      clear hfl
      subst hfc
      go_wp2_with fail
      go_meet
      case rel => exact ⟨rfl, rfl⟩
    | false =>
      have hfl : b.coms.length ≠ b.clubs.length := by have := HFU.out; rw [hfc] at this; have := beq_eq_false_iff_ne.1 this.symm; omega
      have t2 : (e1 == 0) = false := by rw [beq_eq_false_iff_ne, HXE.out.2.1]; exact (HVF.out.2 hfl).1
      have t3 : (e2 == 0) = false := by rw [beq_eq_false_iff_ne, HXE.out.2.2]; exact (HVF.out.2 hfl).2
      clear hfl
      subst hfc
      go_wp2_with fail
      go_meet
      case rel => exact ⟨rfl, rfl⟩
  case rest =>
    obtain ⟨rfl, rfl⟩ := hcut
    clear c0_0 c0_1 c0_2 c0_3 c0_4 c0_5 c1_0 c1_1 c2_0 c2_1 c3_0 c3_1 c3_2 c3_3
    obtain ⟨kk0, -⟩ := HK0.out wc HBwW20.out
    obtain ⟨⟨aa0, aa1, aa2, aa3, aa4, aa5⟩, ⟨xx0, xx1, xx2, xx3, xx4, xx5⟩⟩ := blk6 kk0
    clear kk0
    obtain ⟨kk1, -⟩ := HK1.out wc HBwW21.out
    obtain ⟨⟨bb0, bb1, bb2, bb3, bb4, bb5⟩, ⟨yy0, yy1, yy2, yy3, yy4, yy5⟩⟩ := blk6 kk1
    clear kk1
    obtain ⟨kk2, -⟩ := HK2.out wc HBwW22.out
    obtain ⟨⟨cc0, cc1, cc2, cc3, cc4, cc5⟩, ⟨zz0, zz1, zz2, zz3, zz4, zz5⟩⟩ := blk6 kk2
    clear kk2
    obtain ⟨gs, hgs⟩ : ∃ q, q = wc.heap.size := ⟨_, rfl⟩
    go_wp2_with fail
    rw [← hgs]
    clear aa0 xx0 aa1 xx1 aa2 xx2 aa3 xx3 aa4 xx4 aa5 xx5 bb0 yy0 bb1 yy1 bb2 yy2 bb3 yy3 bb4 yy4 bb5 yy5 cc0 zz0 cc1 zz1 cc2 zz2 cc3 zz3 cc4 zz4 cc5 zz5
    go_loopw [105] (fun s105 wr => (s105 = .int .i64 0 ∨ s105 = .int .i64 1 ∨ s105 = .int .i64 2 ∨ s105 = .int .i64 3) ∧ Hid (wr.heap[gs]? = some (.cells #[.slice p0A x0.1.clubs.length p0c, .int .i64 x0.1.thr, .int .u64 (x0.1.rng : Int), .slice q0A x0.1.coms.length q0c, .slice s0A x0.1.revs.length s0c, .slice t0A x0.1.opns.length t0c, .slice p1A x1.1.clubs.length p1c, .int .i64 x1.1.thr, .int .u64 (x1.1.rng : Int), .slice q1A x1.1.coms.length q1c, .slice s1A x1.1.revs.length s1c, .slice t1A x1.1.opns.length t1c, .slice p2A x2.1.clubs.length p2c, .int .i64 x2.1.thr, .int .u64 (x2.1.rng : Int), .slice q2A x2.1.coms.length q2c, .slice s2A x2.1.revs.length s2c, .slice t2A x2.1.opns.length t2c] 32 (0, 0))) ∧ Hid (Below wc.heap.size wc wr)) (fun s105 _ => 3 - (intOf s105).toNat)
    case atStart => exact ⟨Or.inl rfl, Lib.hid (by rw [hgs]; exact heap_alloc_new _ _), Lib.hid ((Below.refl _ _).alloc (Nat.le_refl _) _)⟩
    case round =>
      obtain ⟨hsl, HG, HBL⟩ := hrel
      clear hgs
      rcases hsl with rfl | rfl | rfl | rfl
      · skip
        have d0 := cell_of (j := 0) HG.out rfl
        have d1 := cell_of (j := 1) HG.out rfl
        have d2 := cell_of (j := 2) HG.out rfl
        have d3 := cell_of (j := 3) HG.out rfl
        have d4 := cell_of (j := 4) HG.out rfl
        have d5 := cell_of (j := 5) HG.out rfl
        go_upto_region 20 with fail
        refine nameC fun W30 hW30 => ?_
        have hb30 : Below wr.heap.size wr W30 := by rw [hW30.out]; exact (Below.refl _ _).alloc (Nat.le_refl _) _
        have G30 := Lib.hid (show W30.heap[wr.heap.size]? = some (.cells #[.slice p0A x0.1.clubs.length p0c, .int .i64 x0.1.thr, .int .u64 (x0.1.rng : Int), .slice q0A x0.1.coms.length q0c, .slice s0A x0.1.revs.length s0c, .slice t0A x0.1.opns.length t0c] 32 (0, 0)) by rw [hW30.out]; exact heap_alloc_new _ _)
        obtain ⟨gb, hgb⟩ : ∃ q, q = wr.heap.size := ⟨_, rfl⟩
        rw [← hgb] at G30 ⊢
        have HB30 := Lib.hid (HBL.out.trans (hb30.mono HBL.out.size))
        have HG30 := Lib.hid ((hb30.block _ (lt_heap HG.out)).trans HG.out)
        clear hW30 hb30 hgb d0 d1 d2 d3 d4 d5 HBL HG
        by_cases hek : e0 = 0
        · have t3 : (e0 != 0) = false := by simp [hek]
          have hek' : (bzD b c r o 0).2 = 0 := by rw [← HXE.out.1]; exact hek
          have HS1 := Lib.hid (HVS.out 0 hek')
          have HS2 := Lib.hid (HVM.out 0 hek')
          rw [← HX0.out] at HS1 HS2
          clear hek hek'
          go_upto_region 21 with fail
          refine nameC fun W31 hW31 => ?_
          have hb31 : Below W30.heap.size W30 W31 := by rw [hW31.out]; exact (Below.refl _ _).alloc (Nat.le_refl _) _
          have G31 := Lib.hid ((hb31.block _ (lt_heap G30.out)).trans G30.out)
          have HG31 := Lib.hid ((hb31.block _ (lt_heap HG30.out)).trans HG30.out)
          have HB31 := Lib.hid (HB30.out.trans (hb31.mono HB30.out.size))
          have HBb := Lib.hid (HBwW20.out.trans (HB31.out.mono HBwW20.out.size))
          clear hW31 hb31 t3 G30 HG30 HB30
          obtain ⟨⟨ee0, ee1, ee2, ee3, ee4, ee5⟩, ⟨ff0, ff1, ff2, ff3, ff4, ff5⟩⟩ := blk6 G31.out
          go_wp2_with fail
          refine (missing_any W31 _ _ x0.1 (HK0.out _ HBb.out).2 HS2.out).mono ?_
          rintro e W32 ⟨nv, rfl, hnv, hb⟩
          obtain ⟨nA, nc, rfl, -⟩ := hnv
          obtain ⟨la, hla⟩ : ∃ q, q = (missD x0.1).1.length := ⟨_, rfl⟩
          have hlab : ¬ (lb : Int) < (la : Int) := by have := HS1.out.2.2.1; rw [hla, HLB.out]; omega
          rw [← hla, HS1.out.2.1]
          have G32 := Lib.hid ((hb.block _ (lt_heap G31.out)).trans G31.out)
          have HG32 := Lib.hid ((hb.block _ (lt_heap HG31.out)).trans HG31.out)
          have HB32 := Lib.hid (HB31.out.trans (hb.mono HB31.out.size))
          have HBb2 := Lib.hid (HBwW20.out.trans (HB32.out.mono HBwW20.out.size))
          clear hb hla G31 HG31 HB31 HBb ee0 ee1 ee2 ee3 ee4 ee5 ff0 ff1 ff2 ff3 ff4 ff5
          obtain ⟨⟨ee0, ee1, ee2, ee3, ee4, ee5⟩, ⟨ff0, ff1, ff2, ff3, ff4, ff5⟩⟩ := blk6 G32.out
          go_wp2_with fail
          refine (bcheck_any W32 _ _ x0.1 (HK0.out _ HBb2.out).2 HS2.out).mono ?_
          rintro e W33 ⟨rfl, hb⟩
          rw [HS1.out.1]
          have G33 := Lib.hid ((hb.block _ (lt_heap G32.out)).trans G32.out)
          have HG33 := Lib.hid ((hb.block _ (lt_heap HG32.out)).trans HG32.out)
          have HB33 := Lib.hid (HB32.out.trans (hb.mono HB32.out.size))
          clear hb G32 HG32 HB32 HBb2 ee0 ee1 ee2 ee3 ee4 ee5 ff0 ff1 ff2 ff3 ff4 ff5
          obtain ⟨⟨ee0, ee1, ee2, ee3, ee4, ee5⟩, ⟨ff0, ff1, ff2, ff3, ff4, ff5⟩⟩ := blk6 G33.out
          obtain ⟨c0_0, c0_1, c0_2, c0_3, c0_4, c0_5, c1_0, c1_1, c2_0, c2_1, c3_0, c3_1, c3_2, c3_3⟩ := HC.out W33 (HB.out.trans (HB33.out.mono HB.out.size))
          have ht := HS1.out.2.2.2
          have hm1 := HS2.out.co
          have hm2 := HS2.out.re
          have hm3 := HS2.out.op
          have hm4 := HSM.out.co
          have hm5 := HSM.out.re
          have hm6 := HSM.out.op
          have ts : (((x0.1.coms.length : Int) + (x0.1.revs.length : Int) + (x0.1.opns.length : Int)) != ((b.coms.length : Int) + (b.revs.length : Int) + (b.opns.length : Int) + 1)) = false := by rw [bne_eq_false_iff_eq]; omega
          clear ht
          go_wp2_with fail
          go_roundw
          case rel => exact ⟨Or.inr (Or.inl rfl), HG33, HB33⟩
          case measure => simp [intOf]
        · have t3 : (e0 != 0) = true := by simp [hek]
          clear hek
          go_upto_region 24 with fail
          refine nameC fun W31 hW31 => ?_
          have hb31 : Below W30.heap.size W30 W31 := by rw [hW31.out]; exact (Below.refl _ _).alloc (Nat.le_refl _) _
          have HG31 := Lib.hid ((hb31.block _ (lt_heap HG30.out)).trans HG30.out)
          have HB31 := Lib.hid (HB30.out.trans (hb31.mono HB30.out.size))
          clear hW31 hb31
          go_wp2_with fail
          go_roundw
          case rel => exact ⟨Or.inr (Or.inl rfl), HG31, HB31⟩
          case measure => simp [intOf]
      · skip
        have d0 := cell_of (j := 6) HG.out rfl
        have d1 := cell_of (j := 7) HG.out rfl
        have d2 := cell_of (j := 8) HG.out rfl
        have d3 := cell_of (j := 9) HG.out rfl
        have d4 := cell_of (j := 10) HG.out rfl
        have d5 := cell_of (j := 11) HG.out rfl
        go_upto_region 20 with fail
        refine nameC fun W30 hW30 => ?_
        have hb30 : Below wr.heap.size wr W30 := by rw [hW30.out]; exact (Below.refl _ _).alloc (Nat.le_refl _) _
        have G30 := Lib.hid (show W30.heap[wr.heap.size]? = some (.cells #[.slice p1A x1.1.clubs.length p1c, .int .i64 x1.1.thr, .int .u64 (x1.1.rng : Int), .slice q1A x1.1.coms.length q1c, .slice s1A x1.1.revs.length s1c, .slice t1A x1.1.opns.length t1c] 32 (0, 0)) by rw [hW30.out]; exact heap_alloc_new _ _)
        obtain ⟨gb, hgb⟩ : ∃ q, q = wr.heap.size := ⟨_, rfl⟩
        rw [← hgb] at G30 ⊢
        have HB30 := Lib.hid (HBL.out.trans (hb30.mono HBL.out.size))
        have HG30 := Lib.hid ((hb30.block _ (lt_heap HG.out)).trans HG.out)
        clear hW30 hb30 hgb d0 d1 d2 d3 d4 d5 HBL HG
        by_cases hek : e1 = 0
        · have t3 : (e1 != 0) = false := by simp [hek]
          have hek' : (bzD b c r o 1).2 = 0 := by rw [← HXE.out.2.1]; exact hek
          have HS1 := Lib.hid (HVS.out 1 hek')
          have HS2 := Lib.hid (HVM.out 1 hek')
          rw [← HX1.out] at HS1 HS2
          clear hek hek'
          go_upto_region 21 with fail
          refine nameC fun W31 hW31 => ?_
          have hb31 : Below W30.heap.size W30 W31 := by rw [hW31.out]; exact (Below.refl _ _).alloc (Nat.le_refl _) _
          have G31 := Lib.hid ((hb31.block _ (lt_heap G30.out)).trans G30.out)
          have HG31 := Lib.hid ((hb31.block _ (lt_heap HG30.out)).trans HG30.out)
          have HB31 := Lib.hid (HB30.out.trans (hb31.mono HB30.out.size))
          have HBb := Lib.hid (HBwW21.out.trans (HB31.out.mono HBwW21.out.size))
          clear hW31 hb31 t3 G30 HG30 HB30
          obtain ⟨⟨ee0, ee1, ee2, ee3, ee4, ee5⟩, ⟨ff0, ff1, ff2, ff3, ff4, ff5⟩⟩ := blk6 G31.out
          go_wp2_with fail
          refine (missing_any W31 _ _ x1.1 (HK1.out _ HBb.out).2 HS2.out).mono ?_
          rintro e W32 ⟨nv, rfl, hnv, hb⟩
          obtain ⟨nA, nc, rfl, -⟩ := hnv
          obtain ⟨la, hla⟩ : ∃ q, q = (missD x1.1).1.length := ⟨_, rfl⟩
          have hlab : ¬ (lb : Int) < (la : Int) := by have := HS1.out.2.2.1; rw [hla, HLB.out]; omega
          rw [← hla, HS1.out.2.1]
          have G32 := Lib.hid ((hb.block _ (lt_heap G31.out)).trans G31.out)
          have HG32 := Lib.hid ((hb.block _ (lt_heap HG31.out)).trans HG31.out)
          have HB32 := Lib.hid (HB31.out.trans (hb.mono HB31.out.size))
          have HBb2 := Lib.hid (HBwW21.out.trans (HB32.out.mono HBwW21.out.size))
          clear hb hla G31 HG31 HB31 HBb ee0 ee1 ee2 ee3 ee4 ee5 ff0 ff1 ff2 ff3 ff4 ff5
          obtain ⟨⟨ee0, ee1, ee2, ee3, ee4, ee5⟩, ⟨ff0, ff1, ff2, ff3, ff4, ff5⟩⟩ := blk6 G32.out
          go_wp2_with fail
          refine (bcheck_any W32 _ _ x1.1 (HK1.out _ HBb2.out).2 HS2.out).mono ?_
          rintro e W33 ⟨rfl, hb⟩
          rw [HS1.out.1]
          have G33 := Lib.hid ((hb.block _ (lt_heap G32.out)).trans G32.out)
          have HG33 := Lib.hid ((hb.block _ (lt_heap HG32.out)).trans HG32.out)
          have HB33 := Lib.hid (HB32.out.trans (hb.mono HB32.out.size))
          clear hb G32 HG32 HB32 HBb2 ee0 ee1 ee2 ee3 ee4 ee5 ff0 ff1 ff2 ff3 ff4 ff5
          obtain ⟨⟨ee0, ee1, ee2, ee3, ee4, ee5⟩, ⟨ff0, ff1, ff2, ff3, ff4, ff5⟩⟩ := blk6 G33.out
          obtain ⟨c0_0, c0_1, c0_2, c0_3, c0_4, c0_5, c1_0, c1_1, c2_0, c2_1, c3_0, c3_1, c3_2, c3_3⟩ := HC.out W33 (HB.out.trans (HB33.out.mono HB.out.size))
          have ht := HS1.out.2.2.2
          have hm1 := HS2.out.co
          have hm2 := HS2.out.re
          have hm3 := HS2.out.op
          have hm4 := HSM.out.co
          have hm5 := HSM.out.re
          have hm6 := HSM.out.op
          have ts : (((x1.1.coms.length : Int) + (x1.1.revs.length : Int) + (x1.1.opns.length : Int)) != ((b.coms.length : Int) + (b.revs.length : Int) + (b.opns.length : Int) + 1)) = false := by rw [bne_eq_false_iff_eq]; omega
          clear ht
          go_wp2_with fail
          go_roundw
          case rel => exact ⟨Or.inr (Or.inr (Or.inl rfl)), HG33, HB33⟩
          case measure => simp [intOf]
        · have t3 : (e1 != 0) = true := by simp [hek]
          clear hek
          go_upto_region 24 with fail
          refine nameC fun W31 hW31 => ?_
          have hb31 : Below W30.heap.size W30 W31 := by rw [hW31.out]; exact (Below.refl _ _).alloc (Nat.le_refl _) _
          have HG31 := Lib.hid ((hb31.block _ (lt_heap HG30.out)).trans HG30.out)
          have HB31 := Lib.hid (HB30.out.trans (hb31.mono HB30.out.size))
          clear hW31 hb31
          go_wp2_with fail
          go_roundw
          case rel => exact ⟨Or.inr (Or.inr (Or.inl rfl)), HG31, HB31⟩
          case measure => simp [intOf]
      · skip
        have d0 := cell_of (j := 12) HG.out rfl
        have d1 := cell_of (j := 13) HG.out rfl
        have d2 := cell_of (j := 14) HG.out rfl
        have d3 := cell_of (j := 15) HG.out rfl
        have d4 := cell_of (j := 16) HG.out rfl
        have d5 := cell_of (j := 17) HG.out rfl
        go_upto_region 20 with fail
        refine nameC fun W30 hW30 => ?_
        have hb30 : Below wr.heap.size wr W30 := by rw [hW30.out]; exact (Below.refl _ _).alloc (Nat.le_refl _) _
        have G30 := Lib.hid (show W30.heap[wr.heap.size]? = some (.cells #[.slice p2A x2.1.clubs.length p2c, .int .i64 x2.1.thr, .int .u64 (x2.1.rng : Int), .slice q2A x2.1.coms.length q2c, .slice s2A x2.1.revs.length s2c, .slice t2A x2.1.opns.length t2c] 32 (0, 0)) by rw [hW30.out]; exact heap_alloc_new _ _)
        obtain ⟨gb, hgb⟩ : ∃ q, q = wr.heap.size := ⟨_, rfl⟩
        rw [← hgb] at G30 ⊢
        have HB30 := Lib.hid (HBL.out.trans (hb30.mono HBL.out.size))
        have HG30 := Lib.hid ((hb30.block _ (lt_heap HG.out)).trans HG.out)
        clear hW30 hb30 hgb d0 d1 d2 d3 d4 d5 HBL HG
        by_cases hek : e2 = 0
        · have t3 : (e2 != 0) = false := by simp [hek]
          have hek' : (bzD b c r o 2).2 = 0 := by rw [← HXE.out.2.2]; exact hek
          have HS1 := Lib.hid (HVS.out 2 hek')
          have HS2 := Lib.hid (HVM.out 2 hek')
          rw [← HX2.out] at HS1 HS2
          clear hek hek'
          go_upto_region 21 with fail
          refine nameC fun W31 hW31 => ?_
          have hb31 : Below W30.heap.size W30 W31 := by rw [hW31.out]; exact (Below.refl _ _).alloc (Nat.le_refl _) _
          have G31 := Lib.hid ((hb31.block _ (lt_heap G30.out)).trans G30.out)
          have HG31 := Lib.hid ((hb31.block _ (lt_heap HG30.out)).trans HG30.out)
          have HB31 := Lib.hid (HB30.out.trans (hb31.mono HB30.out.size))
          have HBb := Lib.hid (HBwW22.out.trans (HB31.out.mono HBwW22.out.size))
          clear hW31 hb31 t3 G30 HG30 HB30
          obtain ⟨⟨ee0, ee1, ee2, ee3, ee4, ee5⟩, ⟨ff0, ff1, ff2, ff3, ff4, ff5⟩⟩ := blk6 G31.out
          go_wp2_with fail
          refine (missing_any W31 _ _ x2.1 (HK2.out _ HBb.out).2 HS2.out).mono ?_
          rintro e W32 ⟨nv, rfl, hnv, hb⟩
          obtain ⟨nA, nc, rfl, -⟩ := hnv
          obtain ⟨la, hla⟩ : ∃ q, q = (missD x2.1).1.length := ⟨_, rfl⟩
          have hlab : ¬ (lb : Int) < (la : Int) := by have := HS1.out.2.2.1; rw [hla, HLB.out]; omega
          rw [← hla, HS1.out.2.1]
          have G32 := Lib.hid ((hb.block _ (lt_heap G31.out)).trans G31.out)
          have HG32 := Lib.hid ((hb.block _ (lt_heap HG31.out)).trans HG31.out)
          have HB32 := Lib.hid (HB31.out.trans (hb.mono HB31.out.size))
          have HBb2 := Lib.hid (HBwW22.out.trans (HB32.out.mono HBwW22.out.size))
          clear hb hla G31 HG31 HB31 HBb ee0 ee1 ee2 ee3 ee4 ee5 ff0 ff1 ff2 ff3 ff4 ff5
          obtain ⟨⟨ee0, ee1, ee2, ee3, ee4, ee5⟩, ⟨ff0, ff1, ff2, ff3, ff4, ff5⟩⟩ := blk6 G32.out
          go_wp2_with fail
          refine (bcheck_any W32 _ _ x2.1 (HK2.out _ HBb2.out).2 HS2.out).mono ?_
          rintro e W33 ⟨rfl, hb⟩
          rw [HS1.out.1]
          have G33 := Lib.hid ((hb.block _ (lt_heap G32.out)).trans G32.out)
          have HG33 := Lib.hid ((hb.block _ (lt_heap HG32.out)).trans HG32.out)
          have HB33 := Lib.hid (HB32.out.trans (hb.mono HB32.out.size))
          clear hb G32 HG32 HB32 HBb2 ee0 ee1 ee2 ee3 ee4 ee5 ff0 ff1 ff2 ff3 ff4 ff5
          obtain ⟨⟨ee0, ee1, ee2, ee3, ee4, ee5⟩, ⟨ff0, ff1, ff2, ff3, ff4, ff5⟩⟩ := blk6 G33.out
          obtain ⟨c0_0, c0_1, c0_2, c0_3, c0_4, c0_5, c1_0, c1_1, c2_0, c2_1, c3_0, c3_1, c3_2, c3_3⟩ := HC.out W33 (HB.out.trans (HB33.out.mono HB.out.size))
          have ht := HS1.out.2.2.2
          have hm1 := HS2.out.co
          have hm2 := HS2.out.re
          have hm3 := HS2.out.op
          have hm4 := HSM.out.co
          have hm5 := HSM.out.re
          have hm6 := HSM.out.op
          have ts : (((x2.1.coms.length : Int) + (x2.1.revs.length : Int) + (x2.1.opns.length : Int)) != ((b.coms.length : Int) + (b.revs.length : Int) + (b.opns.length : Int) + 1)) = false := by rw [bne_eq_false_iff_eq]; omega
          clear ht
          go_wp2_with fail
          go_roundw
          case rel => exact ⟨Or.inr (Or.inr (Or.inr rfl)), HG33, HB33⟩
          case measure => simp [intOf]
        · have t3 : (e2 != 0) = true := by simp [hek]
          clear hek
          go_upto_region 24 with fail
          refine nameC fun W31 hW31 => ?_
          have hb31 : Below W30.heap.size W30 W31 := by rw [hW31.out]; exact (Below.refl _ _).alloc (Nat.le_refl _) _
          have HG31 := Lib.hid ((hb31.block _ (lt_heap HG30.out)).trans HG30.out)
          have HB31 := Lib.hid (HB30.out.trans (hb31.mono HB30.out.size))
          clear hW31 hb31
          go_wp2_with fail
          go_roundw
          case rel => exact ⟨Or.inr (Or.inr (Or.inr rfl)), HG31, HB31⟩
          case measure => simp [intOf]
      · go_wp2_with fail
        go_ret
        exact ⟨rfl, HB1.out.trans ((HB.out.trans (HBL.out.mono HB.out.size)).mono HB1.out.size)⟩
end Go.Proofs.Ytgaanndidcdbpaa
