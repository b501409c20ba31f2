/- The reference's SameCommits and Same: equal beacons are the same. -/
import Derived.Test.YtgaanndidcdbpaaGreatU2
import Derived.Laws.StructEq
import Derived.BigQuiet
namespace Go.Proofs.YtgaanndidcdbpaaGreat
open Go.RowKit Go.Shelf

theorem Tryz.guardRev : Tryz.prog.eqGuardType Tryz.prog.depth 33 = false := by kernel_rfl
theorem Tryz.guardOpn : Tryz.prog.eqGuardType Tryz.prog.depth 37 = false := by kernel_rfl
theorem eqRev (a n : Int) (w : World) : (Op.equalIn 10000 33 (.agg #[.int .i64 a, .int .u64 n]) (.agg #[.int .i64 a, .int .u64 n])).run Tryz.prog w = .ok true w := by
  have a3 := Tryz.isAgg3
  have z3 := Tryz.sizeOf3
  have u3 := Tryz.underlying3
  have a4 := Tryz.isAgg23
  have z4 := Tryz.sizeOf23
  have u4 := Tryz.underlying23
  have hS : Tryz.prog.underlying 33 = some (.struct (Tryz.prog.fieldsOf 33)) := by kernel_rfl
  have hp : Tryz.prog.stoodInHeld 33 = false := by kernel_rfl
  rw [show (10000 : Nat) = 9999 + 1 from rfl, run_equalIn_agg w 9999 33 _ _ hS hp]
  simp only [Program.fieldsOf, Tryz.underlying33]
  go_simp
theorem eqShr (a n : Int) (w : World) : (Op.equalIn 9999 35 (.agg #[.int .u64 a, .int .u64 n]) (.agg #[.int .u64 a, .int .u64 n])).run Tryz.prog w = .ok true w := by
  have a4 := Tryz.isAgg23
  have z4 := Tryz.sizeOf23
  have u4 := Tryz.underlying23
  have hS : Tryz.prog.underlying 35 = some (.struct (Tryz.prog.fieldsOf 35)) := by kernel_rfl
  have hp : Tryz.prog.stoodInHeld 35 = false := by kernel_rfl
  rw [show (9999 : Nat) = 9998 + 1 from rfl, run_equalIn_agg w 9998 35 _ _ hS hp]
  simp only [Program.fieldsOf, Tryz.underlying35]
  go_simp
theorem eqOpn (a f n k : Int) (w : World) : (Op.equalIn 10000 37 (.agg #[.int .i64 a, .int .i64 f, .int .u64 n, .int .u64 k]) (.agg #[.int .i64 a, .int .i64 f, .int .u64 n, .int .u64 k])).run Tryz.prog w = .ok true w := by
  have a3 := Tryz.isAgg3
  have z3 := Tryz.sizeOf3
  have u3 := Tryz.underlying3
  have a4 := Tryz.isAgg35
  have z4 := Tryz.sizeOf35
  have hs := fun w => eqShr n k w
  have hS : Tryz.prog.underlying 37 = some (.struct (Tryz.prog.fieldsOf 37)) := by kernel_rfl
  have hp : Tryz.prog.stoodInHeld 37 = false := by kernel_rfl
  rw [show (10000 : Nat) = 9999 + 1 from rfl, run_equalIn_agg w 9999 37 _ _ hS hp]
  simp only [Program.fieldsOf, Tryz.underlying37]
  go_simp
set_option maxRecDepth 100000 in
set_option maxHeartbeats 4000000 in
theorem sameComs_any (w : World) (M M' : Nat → Prop) (v u : Value) (a : List ComD) (ha : IsComs w M v a) (hb : IsComs w M' u a) (hl : a.length ≤ 1000) (hc : ∀ i, i < a.length → (comN a i).checks.length ≤ 140737488355328) : Calls Tryz.prog 28 #[v, u] w (RetT true w) := by
  have HA := Lib.hid ha
  have HB := Lib.hid hb
  have HCL := Lib.hid hc
  obtain ⟨aA, ac, rfl, -⟩ := ha.len
  obtain ⟨bA, bc, rfl, -⟩ := hb.len
  obtain ⟨n, hn⟩ : ∃ n, n = a.length := ⟨_, rfl⟩
  rw [← hn] at hl HA HB HCL ⊢
  have HN := Lib.hid hn
  have h0 : ((n : Int) != (n : Int)) = false := by simp
  clear ha hb hc hn
  go_enter Tryz.func28, Tryz.ntmps28
  go_wp2_with fail
  go_loopw [5] (fun s5 wr => ∃ k : Nat, k ≤ n ∧ s5 = .int .i64 (k : Int) ∧ Hid (Below w.heap.size w wr)) (fun s5 _ => n - (intOf s5).toNat)
  case atStart => exact ⟨0, Nat.zero_le _, rfl, Lib.hid (Below.refl _ _)⟩
  case round =>
    obtain ⟨k, hk, rfl, HW⟩ := hrel
    by_cases hlt : k < n
    · have hk1 : (k : Int) < (n : Int) := by omega
      have hk0 : (0 : Int) ≤ (k : Int) := by omega
      obtain ⟨g1, o1, p1, q1, rfl, hg1, a0, a1, hu⟩ := HA.out.at_ HW.out (show k < a.length by rw [← HN.out]; exact hlt)
      obtain ⟨g2, o2, p2, q2, rfl, hg2, b0, b1, hv⟩ := HB.out.at_ HW.out (show k < a.length by rw [← HN.out]; exact hlt)
      have HU := Lib.hid hu
      have HV := Lib.hid hv
      have hml := HCL.out k hlt
      obtain ⟨y, hy⟩ : ∃ y, y = comN a k := ⟨_, rfl⟩
      rw [← hy] at a0 a1 b0 b1 hml HU HV
      obtain ⟨yc, hyc⟩ : ∃ z, z = y.club := ⟨_, rfl⟩
      obtain ⟨m, hm⟩ : ∃ z, z = y.checks.length := ⟨_, rfl⟩
      have HM := Lib.hid hm
      rw [← hyc] at a0 b0
      rw [← hm] at a1 b1 hml HU HV
      have e0 : (yc != yc) = false := by simp
      have e1 : ((m : Int) != (m : Int)) = false := by simp
      have HC := Lib.hid (show ∀ W', Below wr.heap.size wr W' → (W'.cell? ⟨g1, o1 + k * 2 + 1, none⟩ = some (.slice p1 m q1) ∧ W'.cell? ⟨g2, o2 + k * 2 + 1, none⟩ = some (.slice p2 m q2)) from fun W' h => ⟨(h.cell (p := ⟨g1, o1 + k * 2 + 1, none⟩) (lt_of_cell a1)).trans a1, (h.cell (p := ⟨g2, o2 + k * 2 + 1, none⟩) (lt_of_cell b1)).trans b1⟩)
      clear hy hyc hm hg1 hg2 hu hv
      go_upto_region 6 with fail
      go_quiet (fail)
      go_wp2_with fail
      clear a0 a1 b0 b1 e0 e1
      obtain ⟨wo, hwo⟩ : ∃ wo, wo = wr := ⟨_, rfl⟩
      subst hwo
      go_loopw [6] (fun s6 wr => ∃ j : Nat, j ≤ m ∧ s6 = .int .i64 (j : Int) ∧ Hid (Below wo.heap.size wo wr)) (fun s6 _ => m - (intOf s6).toNat)
      case atStart => exact ⟨0, Nat.zero_le _, rfl, Lib.hid (below_drewN (Below.refl _ _) _)⟩
      case round =>
        obtain ⟨j, hj, rfl, HX⟩ := hrel
        obtain ⟨a1, b1⟩ := HC.out wr HX.out
        have HWX := Lib.hid (HW.out.trans (HX.out.mono HW.out.size))
        by_cases hlj : j < m
        · have hj1 : (j : Int) < (m : Int) := by omega
          have hj0 : (0 : Int) ≤ (j : Int) := by omega
          have hjl : j < y.checks.length := by rw [← HM.out]; exact hlj
          obtain ⟨g3, o3, rfl, hg3, x1⟩ := IsU64.at_ (show IsU64 w M (.slice p1 y.checks.length q1) y.checks by rw [← HM.out]; exact HU.out) HWX.out hjl
          obtain ⟨g4, o4, rfl, hg4, x2⟩ := IsU64.at_ (show IsU64 w M' (.slice p2 y.checks.length q2) y.checks by rw [← HM.out]; exact HV.out) HWX.out hjl
          obtain ⟨z, hz⟩ : ∃ z, z = y.checks[j] := ⟨_, rfl⟩
          rw [← hz] at x1 x2
          have e2 : ((z : Int) != (z : Int)) = false := by simp
          clear hz hjl hg3 hg4
          go_upto_region 11 with fail
          go_quiet (fail)
          go_wp2_with fail
          go_roundw
          case rel => exact ⟨j + 1, by omega, by go_num, Lib.hid (below_drewN HX.out _)⟩
          case measure => simp [intOf]; omega
        · obtain rfl : j = m := by omega
          have hj1 : ¬ (j : Int) < (j : Int) := by omega
          go_wp2_with fail
          go_roundw
          case rel => exact ⟨k + 1, by omega, by go_num, HWX⟩
          case measure => simp [intOf]; omega
    · obtain rfl : k = n := by omega
      have hk1 : ¬ (k : Int) < (k : Int) := by omega
      go_wp2_with fail
      go_ret
      exact ⟨rfl, HW.out⟩
set_option maxRecDepth 100000 in
set_option maxHeartbeats 8000000 in
theorem rsame_any (w : World) (M M' : Nat → Prop) (v u : Value) (a : BeaD) (ha : IsBea w M v a) (hb : IsBea w M' u a) (hl : a.clubs.length ≤ 100000 ∧ a.coms.length ≤ 1000 ∧ ∀ i, i < a.coms.length → (comN a.coms i).checks.length ≤ 140737488355328) : Calls Tryz.prog 9 #[v, u] w (RetT true w) := by
  obtain ⟨cA, cc, kA, kc, rA, rc, oA, oc, rfl, i1, i2, i3, i4⟩ := ha.parts
  obtain ⟨dA, dc, lA, lc, sA, sc, pA, pc, rfl, j1, j2, j3, j4⟩ := hb.parts
  have HI1 := Lib.hid i1
  have HI2 := Lib.hid i2
  have HI3 := Lib.hid i3
  have HI4 := Lib.hid i4
  have HJ1 := Lib.hid j1
  have HJ2 := Lib.hid j2
  have HJ3 := Lib.hid j3
  have HJ4 := Lib.hid j4
  have HL := Lib.hid hl
  obtain ⟨th, hth⟩ : ∃ z, z = a.thr := ⟨_, rfl⟩
  obtain ⟨rg, hrg⟩ : ∃ z, z = a.rng := ⟨_, rfl⟩
  obtain ⟨nr, hnr⟩ : ∃ z, z = a.revs.length := ⟨_, rfl⟩
  obtain ⟨no, hno⟩ : ∃ z, z = a.opns.length := ⟨_, rfl⟩
  have HNR := Lib.hid hnr
  have HNO := Lib.hid hno
  have hr9 : nr ≤ 9223372036854775807 := by obtain ⟨A', c', e, h1, h2, -⟩ := id i3; rw [hnr]; omega
  have ho9 : no ≤ 9223372036854775807 := by obtain ⟨A', c', e, h1, h2, -⟩ := id i4; rw [hno]; omega
  rw [← hth, ← hrg, ← hnr, ← hno]
  rw [← hnr] at HI3 HJ3
  rw [← hno] at HI4 HJ4
  clear ha hb hl i1 i2 i3 i4 j1 j2 j3 j4 hth hrg hnr hno
  go_enter Tryz.func9, Tryz.ntmps9
  go_upto_region 1 with fail
  refine nameC fun W1 hW1 => ?_
  have hb1 : Below w.heap.size w W1 := by rw [hW1.out]; exact ((Below.refl _ _).alloc (Nat.le_refl _) _).alloc (by simp) _
  have k0 : W1.heap[w.heap.size]? = some (.cells #[.slice cA a.clubs.length cc, .int .i64 th, .int .u64 (rg : Int), .slice kA a.coms.length kc, .slice rA nr rc, .slice oA no oc] 28 (0, 0)) := by rw [hW1.out, heap_alloc_if, if_neg (by simp)]; exact heap_alloc_new _ _
  have k1 : W1.heap[w.heap.size + 1]? = some (.cells #[.slice dA a.clubs.length dc, .int .i64 th, .int .u64 (rg : Int), .slice lA a.coms.length lc, .slice sA nr sc, .slice pA no pc] 28 (0, 0)) := by rw [hW1.out, heap_alloc_if, if_pos (by simp)]
  obtain ⟨B1, hB1⟩ : ∃ B1, B1 = w.heap.size + 1 := ⟨_, rfl⟩
  rw [← hB1] at k1 ⊢
  have HB1 := Lib.hid hb1
  have HC := Lib.hid (show ∀ W', Below W1.heap.size W1 W' → (W'.cell? ⟨w.heap.size, 0, none⟩ = some (.slice cA a.clubs.length cc) ∧ W'.cell? ⟨w.heap.size, 1, none⟩ = some (.int .i64 th) ∧ W'.cell? ⟨w.heap.size, 2, none⟩ = some (.int .u64 (rg : Int)) ∧ W'.cell? ⟨w.heap.size, 3, none⟩ = some (.slice kA a.coms.length kc) ∧ W'.cell? ⟨w.heap.size, 4, none⟩ = some (.slice rA nr rc) ∧ W'.cell? ⟨w.heap.size, 5, none⟩ = some (.slice oA no oc) ∧ W'.cell? ⟨B1, 0, none⟩ = some (.slice dA a.clubs.length dc) ∧ W'.cell? ⟨B1, 1, none⟩ = some (.int .i64 th) ∧ W'.cell? ⟨B1, 2, none⟩ = some (.int .u64 (rg : Int)) ∧ W'.cell? ⟨B1, 3, none⟩ = some (.slice lA a.coms.length lc) ∧ W'.cell? ⟨B1, 4, none⟩ = some (.slice sA nr sc) ∧ W'.cell? ⟨B1, 5, none⟩ = some (.slice pA no pc)) from fun W' h => by
    have e0 := (h.block _ (lt_heap k0)).trans k0
    have e1 := (h.block _ (lt_heap k1)).trans k1
    exact ⟨cell_of e0 rfl, cell_of e0 rfl, cell_of e0 rfl, cell_of e0 rfl, cell_of e0 rfl, cell_of e0 rfl, cell_of e1 rfl, cell_of e1 rfl, cell_of e1 rfl, cell_of e1 rfl, cell_of e1 rfl, cell_of e1 rfl⟩)
  have t1 : (th != th) = false := by simp
  have t2 : ((rg : Int) != (rg : Int)) = false := by simp
  have t3 : ((nr : Int) != (nr : Int)) = false := by simp
  have t4 : ((no : Int) != (no : Int)) = false := by simp
  clear hW1 hb1 k0 k1 hB1
  obtain ⟨c0, c1, c2, c3, c4, c5, d0, d1, d2, d3, d4, d5⟩ := HC.out W1 (Below.refl _ _)
  go_wp2_with fail
  refine (sameInts_any W1 _ _ _ _ a.clubs a.clubs (IsSl.below HI1.out HB1.out) (IsSl.below HJ1.out HB1.out) HL.out.1).mono ?_
  rintro e W2 ⟨rfl, hb⟩
  rw [show decide (a.clubs = a.clubs) = true from decide_eq_true rfl]
  have HB2 := Lib.hid hb
  clear hb c0 c1 c2 c3 c4 c5 d0 d1 d2 d3 d4 d5
  obtain ⟨c0, c1, c2, c3, c4, c5, d0, d1, d2, d3, d4, d5⟩ := HC.out W2 HB2.out
  go_wp2_with fail
  refine (sameComs_any W2 _ _ _ _ a.coms (HI2.out.below (HB1.out.trans (HB2.out.mono HB1.out.size))) (HJ2.out.below (HB1.out.trans (HB2.out.mono HB1.out.size))) HL.out.2.1 HL.out.2.2).mono ?_
  rintro e W3 ⟨rfl, hb⟩
  have HB3 : Hid (Below W1.heap.size W1 W3) := Lib.hid (HB2.out.trans (hb.mono HB2.out.size))
  clear hb c0 c1 c2 c3 c4 c5 d0 d1 d2 d3 d4 d5 HB2
  obtain ⟨c0, c1, c2, c3, c4, c5, d0, d1, d2, d3, d4, d5⟩ := HC.out W3 HB3.out
  go_wp2_with fail
  clear c0 c1 c2 c3 c4 c5 d0 d1 d2 d3 d4 d5 t1 t2 t3 t4
  go_loopw [5] (fun s5 wr => ∃ k : Nat, k ≤ nr ∧ s5 = .int .i64 (k : Int) ∧ Hid (Below W1.heap.size W1 wr)) (fun s5 _ => nr - (intOf s5).toNat)
  case atStart => exact ⟨0, Nat.zero_le _, rfl, HB3⟩
  case round =>
    clear HB3
    obtain ⟨k, hk, rfl, HW⟩ := hrel
    have HWW := Lib.hid (HB1.out.trans (HW.out.mono HB1.out.size))
    obtain ⟨c0, c1, c2, c3, c4, c5, d0, d1, d2, d3, d4, d5⟩ := HC.out wr HW.out
    clear c0 c1 c2 c3 c5 d0 d1 d2 d3 d5
    by_cases hlt : k < nr
    · have hk1 : (k : Int) < (nr : Int) := by omega
      have hk0 : (0 : Int) ≤ (k : Int) := by omega
      obtain ⟨A9', c9', e9', -, -, hcells⟩ := HI3.out
      obtain ⟨rfl, hmm, rfl⟩ := Value.slice.inj e9'
      rw [← hmm] at hcells
      clear hmm e9'
      obtain ⟨g1, o1, rfl, -, hg1, a0, a1⟩ := Cells.at2 hcells HWW.out hlt
      obtain ⟨A9', c9', e9', -, -, hcells2⟩ := HJ3.out
      obtain ⟨rfl, hmm, rfl⟩ := Value.slice.inj e9'
      rw [← hmm] at hcells2
      clear hmm e9'
      obtain ⟨g2, o2, rfl, -, hg2, b0, b1⟩ := Cells.at2 hcells2 HWW.out hlt
      replace a0 : wr.cell? ⟨g1, o1 + k * 2, none⟩ = some (.int .i64 (revN a.revs k).club) := a0
      replace a1 : wr.cell? ⟨g1, o1 + k * 2 + 1, none⟩ = some (.int .u64 ((revN a.revs k).num : Int)) := a1
      replace b0 : wr.cell? ⟨g2, o2 + k * 2, none⟩ = some (.int .i64 (revN a.revs k).club) := b0
      replace b1 : wr.cell? ⟨g2, o2 + k * 2 + 1, none⟩ = some (.int .u64 ((revN a.revs k).num : Int)) := b1
      obtain ⟨yc, hyc⟩ : ∃ z, z = (revN a.revs k).club := ⟨_, rfl⟩
      obtain ⟨yn, hyn⟩ : ∃ z, z = (revN a.revs k).num := ⟨_, rfl⟩
      rw [← hyc] at a0 b0
      rw [← hyn] at a1 b1
      clear hyc hyn hcells hcells2 hg1 hg2
      have hG := Tryz.guardRev
      have hE := fun w => eqRev yc yn w
      go_upto_region 6 with fail
      go_quiet (fail)
      go_wp2_with fail
      go_roundw
      case rel => exact ⟨k + 1, by omega, by go_num, Lib.hid (below_drewN HW.out _)⟩
      case measure => simp [intOf]; omega
    · obtain rfl : k = nr := by omega
      have hk1 : ¬ (k : Int) < (k : Int) := by omega
      go_wp2_with fail
      clear c4 d4
      obtain ⟨wo, hwo⟩ : ∃ wo, wo = wr := ⟨_, rfl⟩
      subst hwo
      go_loopw [6] (fun s6 wr => ∃ j : Nat, j ≤ no ∧ s6 = .int .i64 (j : Int) ∧ Hid (Below W1.heap.size W1 wr)) (fun s6 _ => no - (intOf s6).toNat)
      case atStart => exact ⟨0, Nat.zero_le _, rfl, HW⟩
      case round =>
        clear HW HWW
        obtain ⟨j, hj, rfl, HW⟩ := hrel
        have HWW := Lib.hid (HB1.out.trans (HW.out.mono HB1.out.size))
        obtain ⟨c0, c1, c2, c3, c4, c5, d0, d1, d2, d3, d4, d5⟩ := HC.out wr HW.out
        clear c0 c1 c2 c3 c4 d0 d1 d2 d3 d4
        by_cases hlj : j < no
        · have hj1 : (j : Int) < (no : Int) := by omega
          have hj0 : (0 : Int) ≤ (j : Int) := by omega
          obtain ⟨A9', c9', e9', -, -, hcells⟩ := HI4.out
          obtain ⟨rfl, hmm, rfl⟩ := Value.slice.inj e9'
          rw [← hmm] at hcells
          clear hmm e9'
          obtain ⟨g1, o1, rfl, -, hg1, a0, a1, a2, a3⟩ := Cells.at4 hcells HWW.out hlj
          obtain ⟨A9', c9', e9', -, -, hcells2⟩ := HJ4.out
          obtain ⟨rfl, hmm, rfl⟩ := Value.slice.inj e9'
          rw [← hmm] at hcells2
          clear hmm e9'
          obtain ⟨g2, o2, rfl, -, hg2, b0, b1, b2, b3⟩ := Cells.at4 hcells2 HWW.out hlj
          replace a0 : wr.cell? ⟨g1, o1 + j * 4, none⟩ = some (.int .i64 (opnN a.opns j).club) := a0
          replace a1 : wr.cell? ⟨g1, o1 + j * 4 + 1, none⟩ = some (.int .i64 (opnN a.opns j).frm) := a1
          replace a2 : wr.cell? ⟨g1, o1 + j * 4 + 1 + 1, none⟩ = some (.int .u64 ((opnN a.opns j).sh.1 : Int)) := a2
          replace a3 : wr.cell? ⟨g1, o1 + j * 4 + 1 + 1 + 1, none⟩ = some (.int .u64 ((opnN a.opns j).sh.2 : Int)) := a3
          replace b0 : wr.cell? ⟨g2, o2 + j * 4, none⟩ = some (.int .i64 (opnN a.opns j).club) := b0
          replace b1 : wr.cell? ⟨g2, o2 + j * 4 + 1, none⟩ = some (.int .i64 (opnN a.opns j).frm) := b1
          replace b2 : wr.cell? ⟨g2, o2 + j * 4 + 1 + 1, none⟩ = some (.int .u64 ((opnN a.opns j).sh.1 : Int)) := b2
          replace b3 : wr.cell? ⟨g2, o2 + j * 4 + 1 + 1 + 1, none⟩ = some (.int .u64 ((opnN a.opns j).sh.2 : Int)) := b3
          obtain ⟨yc, hyc⟩ : ∃ z, z = (opnN a.opns j).club := ⟨_, rfl⟩
          obtain ⟨yf, hyf⟩ : ∃ z, z = (opnN a.opns j).frm := ⟨_, rfl⟩
          obtain ⟨y1, hy1⟩ : ∃ z, z = (opnN a.opns j).sh.1 := ⟨_, rfl⟩
          obtain ⟨y2, hy2⟩ : ∃ z, z = (opnN a.opns j).sh.2 := ⟨_, rfl⟩
          rw [← hyc] at a0 b0
          rw [← hyf] at a1 b1
          rw [← hy1] at a2 b2
          rw [← hy2] at a3 b3
          clear hyc hyf hy1 hy2 hcells hcells2 hg1 hg2
          have hG := Tryz.guardOpn
          have hE := fun w => eqOpn yc yf y1 y2 w
          go_upto_region 11 with fail
          go_quiet (fail)
          go_wp2_with fail
          go_roundw
          case rel => exact ⟨j + 1, by omega, by go_num, Lib.hid (below_drewN HW.out _)⟩
          case measure => simp [intOf]; omega
        · obtain rfl : j = no := by omega
          have hj1 : ¬ (j : Int) < (j : Int) := by omega
          go_wp2_with fail
          go_ret
          exact ⟨rfl, HWW.out⟩
end Go.Proofs.YtgaanndidcdbpaaGreat
