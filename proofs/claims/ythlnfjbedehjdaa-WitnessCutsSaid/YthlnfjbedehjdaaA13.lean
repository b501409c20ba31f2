/- The reference's set, floor and bounds. -/
import Derived.Test.YthlnfjbedehjdaaA12
import Derived.BigQuiet
namespace Go.Proofs.Ythlnfjbedehjdaa
open Go.RowKit Go.Deep Go.Shelf

set_option maxRecDepth 20000 in
set_option maxHeartbeats 4000000 in
theorem rset_any (w : World) (M M' : Nat → Prop) (v u : Value) (q : RaceD) (l : List Int) (h : IsRace w M v q) (h' : IsInts w M' u l) (hlen : l.length ≤ 140737488355328) : Calls Try.prog 56 #[v, u] w fun e w' => e = .returned (.bool (setB q l)) ∧ Below w.heap.size w w' := by
  obtain ⟨cA, cc, pA, pc, oA, oc, rfl, -⟩ := h.parts
  obtain ⟨uA, uc, rfl, -⟩ := id h'
  have HU := Lib.hid h'
  clear h h'
  obtain ⟨n, hn⟩ : ∃ n, n = q.clubs.length := ⟨_, rfl⟩
  obtain ⟨m, hm⟩ : ∃ m, m = l.length := ⟨_, rfl⟩
  obtain ⟨c, hc⟩ : ∃ c, c = q.club := ⟨_, rfl⟩
  have HOKI := fun k => Lib.hid (show SetOk q l k ↔ (0 ≤ nthI l k ∧ nthI l k < n ∧ nthI l k ≠ c ∧ (0 < k → nthI l (k - 1) < nthI l k)) by rw [hn, hc]; exact Iff.rfl)
  have HB := Lib.hid (show setB q l = (List.range m).all fun k => decide (SetOk q l k) by rw [hm]; rfl)
  rw [← hn, ← hm, ← hc]
  rw [← hm] at hlen
  have HM := Lib.hid hm
  clear hn hm hc
  obtain ⟨z, hz⟩ : ∃ z, z = setB q l := ⟨_, rfl⟩
  rw [← hz] at HB ⊢
  clear hz
  go_enter Try.func56, Try.ntmps56
  go_wp2_with fail
  refine nameC fun W1 hW1 => ?_
  have hb1 : Below w.heap.size w W1 := by rw [hW1.out]; exact (Below.refl _ _).alloc (Nat.le_refl _) _
  have k0 : W1.heap[w.heap.size]? = some (.cells #[.int .i64 q.win, .int .i64 q.draw, .slice cA n cc, .slice pA q.points.length pc, .slice oA q.opn.length oc, .int .i64 c, .int .i64 q.place] 25 (0, 0)) := by rw [hW1.out]; exact heap_alloc_new _ _
  have K0 := Lib.hid k0
  have HB1 := Lib.hid hb1
  clear hW1 hb1 k0
  go_loopw [5] (fun i wr => ∃ k : Nat, k ≤ m ∧ i = .int .i64 (k : Int) ∧ Hid (∀ j, j < k → SetOk q l j) ∧ Hid (Below W1.heap.size W1 wr)) (fun i _ => m - (intOf i).toNat)
  case atStart => exact ⟨0, Nat.zero_le _, rfl, Lib.hid fun j hj => absurd hj (by omega), Lib.hid (Below.refl _ _)⟩
  case round =>
    obtain ⟨k, hk, rfl, HT, HB2⟩ := hrel
    have HBW := Lib.hid (HB1.out.trans (HB2.out.mono HB1.out.size))
    have k0 := (HB2.out.block _ (lt_heap K0.out)).trans K0.out
    have r2 := cell_of (j := 2) k0 rfl
    have r5 := cell_of (j := 5) k0 rfl
    clear k0
    by_cases hlt : k < m
    case neg =>
      have hnl : ¬ (k : Int) < (m : Int) := by omega
      obtain rfl : k = m := by omega
      have HQ := Lib.hid (show z = true by rw [HB.out, List.all_eq_true]; exact fun j hj => decide_eq_true (HT.out j (List.mem_range.1 hj)))
      go_wp2_with fail
      go_ret
      exact ⟨ret_bool HQ.out.symm, HBW.out⟩
    obtain ⟨ub, uo, rfl, hub, hck⟩ := HU.out.at_ HBW.out (show k < l.length by rw [← HM.out]; exact hlt)
    have hy : 0 < k → wr.cell? ⟨ub, uo + (k - 1), none⟩ = some (.int .i64 (nthI l (k - 1))) := fun h0 => by
      obtain ⟨cb', co', e, -, hck'⟩ := HU.out.at_ HBW.out (show k - 1 < l.length by rw [← HM.out]; omega)
      simp only [Option.some.injEq, Addr.mk.injEq, and_true] at e
      rw [e.1, e.2]; exact hck'
    have HY := Lib.hid hy
    have HKI := HOKI k
    have hbad : ¬ SetOk q l k → z = false := fun hn => by rw [HB.out, List.all_eq_false]; exact ⟨k, List.mem_range.2 hlt, by simpa using hn⟩
    have HBAD := Lib.hid hbad
    obtain ⟨x, hx⟩ : ∃ x, x = nthI l k := ⟨_, rfl⟩
    obtain ⟨y, hy'⟩ : ∃ y, y = nthI l (k - 1) := ⟨_, rfl⟩
    rw [← hx] at hck HKI
    rw [← hy'] at HKI HY
    have hk0 : (0 : Int) ≤ (k : Int) := by omega
    have hk1 : (k : Int) < (m : Int) := by omega
    have hm9 : (m : Int) ≤ 140737488355328 := by omega
    clear hy hx hy' hbad HOKI
    by_cases hk9 : k = 0
    · skip
      have dk : decide ((0 : Int) < (k : Int)) = false := by rw [decide_eq_false_iff_not]; omega
      have dk2 : decide (0 < k) = false := by rw [decide_eq_false_iff_not]; omega
      have HK9 := Lib.hid hk9
      clear hk9
      by_cases t0 : x < 0
      · skip
        have HQ := Lib.hid (HBAD.out (by rw [HKI.out]; have := HK9.out; omega))
        have dt0 : decide (x < 0) = true := by rw [decide_eq_true_eq]; omega
        clear t0
        go_wp2_with fail
        go_quiet (fail)
        go_wp2_with fail
        go_ret
        exact ⟨ret_bool HQ.out.symm, bDrewN HBW.out _⟩
      have dt0 : decide (x < 0) = false := by rw [decide_eq_false_iff_not]; omega
      by_cases t1 : (n : Int) ≤ x
      · skip
        have HQ := Lib.hid (HBAD.out (by rw [HKI.out]; have := HK9.out; omega))
        have dt1 : decide ((n : Int) ≤ x) = true := by rw [decide_eq_true_eq]; omega
        clear t0 t1
        go_wp2_with fail
        go_quiet (fail)
        go_wp2_with fail
        go_ret
        exact ⟨ret_bool HQ.out.symm, bDrewN HBW.out _⟩
      have dt1 : decide ((n : Int) ≤ x) = false := by rw [decide_eq_false_iff_not]; omega
      by_cases t2 : x = c
      · skip
        have HQ := Lib.hid (HBAD.out (by rw [HKI.out]; have := HK9.out; omega))
        have dt2 : (x == c) = true := by simpa using t2
        clear t0 t1 t2
        go_wp2_with fail
        go_quiet (fail)
        go_wp2_with fail
        go_ret
        exact ⟨ret_bool HQ.out.symm, bDrewN HBW.out _⟩
      have dt2 : (x == c) = false := by simpa using t2
      have hs : SetOk q l (k) := by rw [HKI.out]; have := HK9.out; omega
      have HT2 := Lib.hid (show ∀ j', j' < k + 1 → SetOk q l j' from fun j' hj => by rcases Nat.lt_or_ge j' (k) with h | h; exact HT.out j' h; rw [show j' = k by omega]; exact hs)
      clear hs t0 t1 t2
      go_wp2_with fail
      go_quiet (fail)
      go_wp2_with fail
      go_roundw
      case rel => exact ⟨k + 1, by omega, by go_num, HT2, Lib.hid (bDrewN HB2.out _)⟩
      case measure => simp [intOf]; omega
    obtain ⟨j, rfl⟩ : ∃ j, k = j + 1 := ⟨k - 1, by omega⟩
    have hyc : wr.cell? ⟨ub, uo + j, none⟩ = some (.int .i64 y) := HY.out (by omega)
    have dk : decide ((0 : Int) < (j : Int) + 1) = true := by rw [decide_eq_true_eq]; omega
    have hj0 : (0 : Int) ≤ (j : Int) := by omega
    have hj1 : (j : Int) < (m : Int) := by omega
    have HK9 := Lib.hid hk9
    clear hk9
    by_cases t0 : x < 0
    · skip
      have HQ := Lib.hid (HBAD.out (by rw [HKI.out]; have := HK9.out; omega))
      have dt0 : decide (x < 0) = true := by rw [decide_eq_true_eq]; omega
      clear t0
      go_wp2_with fail
      go_quiet (fail)
      go_wp2_with fail
      go_ret
      exact ⟨ret_bool HQ.out.symm, bDrewN HBW.out _⟩
    have dt0 : decide (x < 0) = false := by rw [decide_eq_false_iff_not]; omega
    by_cases t1 : (n : Int) ≤ x
    · skip
      have HQ := Lib.hid (HBAD.out (by rw [HKI.out]; have := HK9.out; omega))
      have dt1 : decide ((n : Int) ≤ x) = true := by rw [decide_eq_true_eq]; omega
      clear t0 t1
      go_wp2_with fail
      go_quiet (fail)
      go_wp2_with fail
      go_ret
      exact ⟨ret_bool HQ.out.symm, bDrewN HBW.out _⟩
    have dt1 : decide ((n : Int) ≤ x) = false := by rw [decide_eq_false_iff_not]; omega
    by_cases t2 : x = c
    · skip
      have HQ := Lib.hid (HBAD.out (by rw [HKI.out]; have := HK9.out; omega))
      have dt2 : (x == c) = true := by simpa using t2
      clear t0 t1 t2
      go_wp2_with fail
      go_quiet (fail)
      go_wp2_with fail
      go_ret
      exact ⟨ret_bool HQ.out.symm, bDrewN HBW.out _⟩
    have dt2 : (x == c) = false := by simpa using t2
    by_cases t3 : x ≤ y
    · skip
      have HQ := Lib.hid (HBAD.out (by rw [HKI.out]; have := HK9.out; omega))
      have dt3 : decide (x ≤ y) = true := by rw [decide_eq_true_eq]; omega
      clear t0 t1 t2 t3
      go_wp2_with fail
      go_quiet (fail)
      go_wp2_with fail
      go_ret
      exact ⟨ret_bool HQ.out.symm, bDrewN HBW.out _⟩
    have dt3 : decide (x ≤ y) = false := by rw [decide_eq_false_iff_not]; omega
    have hs : SetOk q l (j + 1) := by rw [HKI.out]; have := HK9.out; omega
    have HT2 := Lib.hid (show ∀ j', j' < j + 1 + 1 → SetOk q l j' from fun j' hj => by rcases Nat.lt_or_ge j' (j + 1) with h | h; exact HT.out j' h; rw [show j' = j + 1 by omega]; exact hs)
    clear hs t0 t1 t2 t3
    go_wp2_with fail
    go_quiet (fail)
    go_wp2_with fail
    go_roundw
    case rel => exact ⟨j + 1 + 1, by omega, by go_num, HT2, Lib.hid (bDrewN HB2.out _)⟩
    case measure => simp [intOf]; omega
theorem tdiv_floor2 {a b : Int} (hb : 0 < b) : (if a < a.tdiv b * b then a.tdiv b - 1 else a.tdiv b) = a / b := by
  rw [← tdiv_floor hb]
  have h1 := Int.tmod_add_mul_tdiv a b
  rw [Int.mul_comm] at h1
  by_cases h : a < a.tdiv b * b
  · rw [if_pos h, if_pos (by omega)]
  · rw [if_neg h, if_neg (by omega)]
theorem rfloor_any (w : World) (a b : Int) (hb : 1 ≤ b ∧ b ≤ 999) (ha : -1000000000000 ≤ a ∧ a ≤ 1000000000000) : Calls Try.prog 59 #[.int .i64 a, .int .i64 b] w fun e w' => e = .returned (.int .i64 (a / b)) ∧ w = w' := by
  have hf := tdiv_floor2 (a := a) (b := b) (by omega)
  have h1 := Int.tmod_add_mul_tdiv a b
  obtain ⟨hb1, hb2⟩ := hb
  obtain ⟨ha1, ha2⟩ := ha
  have hq : -1000000000001 ≤ a / b ∧ a / b ≤ 1000000000001 := by
    constructor
    · exact Int.le_ediv_of_mul_le (by omega) (by omega)
    · rcases Int.lt_or_le a 0 with h | h
      · have := Int.ediv_neg_of_neg_of_pos h (show 0 < b by omega); omega
      · have := Int.ediv_le_self b h; omega
  have hmb : -9223372036854775808 ≤ a.tdiv b * b ∧ a.tdiv b * b ≤ 9223372036854775807 := by
    rw [Int.mul_comm] at h1
    have h2 : -b < a.tmod b ∧ a.tmod b < b := by
      have h3 := Int.emod_nonneg a (show b ≠ 0 by omega)
      have h4 := Int.emod_lt_of_pos a (show 0 < b by omega)
      rcases Int.lt_or_le a 0 with h | h
      · have := Int.tmod_eq_emod_of_nonneg (a := -a) (b := b) (by omega)
        rw [Int.neg_tmod] at this
        have h6 := Int.emod_nonneg (-a) (show b ≠ 0 by omega)
        have h7 := Int.emod_lt_of_pos (-a) (show 0 < b by omega)
        omega
      · have := Int.tmod_eq_emod_of_nonneg (a := a) (b := b) h
        omega
    omega
  have hm : IntKind.i64.wrap (a.tdiv b * b) = a.tdiv b * b := IntWalk.i64_in _ hmb
  have hm2 : wrap64 (a.tdiv b * b) = a.tdiv b * b := IntWalk.wrap64_in _ hmb
  by_cases t : a < a.tdiv b * b
  · have hd : a.tdiv b - 1 = a / b := by rw [if_pos t] at hf; exact hf
    have HW := Lib.hid (show wrap64 (a.tdiv b - 1) = a / b by rw [hd]; exact IntWalk.wrap64_in _ (by omega))
    have HM := Lib.hid (show IntKind.i64.wrap (a.tdiv b * b) = a.tdiv b * b ∧ wrap64 (a.tdiv b * b) = a.tdiv b * b from ⟨hm, hm2⟩)
    have HT := Lib.hid t
    clear hd hf h1 hm hm2 hmb hq t
    have dt : decide (a < IntKind.i64.wrap (a.tdiv b * b)) = true := by rw [HM.out.1]; exact decide_eq_true HT.out
    have dt2 : decide (a < wrap64 (a.tdiv b * b)) = true := by rw [HM.out.2]; exact decide_eq_true HT.out
    go_enter Try.func59, Try.ntmps59
    go_wp2_with fail
    go_ret
    exact ⟨ret_int HW.out, rfl⟩
  · have hd : a.tdiv b = a / b := by rw [if_neg t] at hf; exact hf
    have HW := Lib.hid hd
    have HM := Lib.hid (show IntKind.i64.wrap (a.tdiv b * b) = a.tdiv b * b ∧ wrap64 (a.tdiv b * b) = a.tdiv b * b from ⟨hm, hm2⟩)
    have HT := Lib.hid t
    clear hd hf h1 hm hm2 hmb hq t
    have dt : decide (a < IntKind.i64.wrap (a.tdiv b * b)) = false := by rw [HM.out.1]; exact decide_eq_false HT.out
    have dt2 : decide (a < wrap64 (a.tdiv b * b)) = false := by rw [HM.out.2]; exact decide_eq_false HT.out
    go_enter Try.func59, Try.ntmps59
    go_wp2_with fail
    go_ret
    exact ⟨ret_int HW.out, rfl⟩
set_option maxRecDepth 20000 in
set_option maxHeartbeats 4000000 in
theorem bounds_any (w : World) (M : Nat → Prop) (v : Value) (q : RaceD) (h : IsRace w M v q) (hv : ValidR q) : Calls Try.prog 57 #[v] w fun e w' => e = .returned (.tuple #[.int .i64 (lowR q), .int .i64 (highR q)]) ∧ Below w.heap.size w w' := by
  obtain ⟨cb, hcb⟩ : ∃ cb : Nat, q.club = (cb : Int) := ⟨q.club.toNat, by have := hv.size.c0; omega⟩
  obtain ⟨cA, cc, pA, pc, oA, oc, rfl, hc, hp, ho⟩ := h.parts
  rw [hcb]
  have HP := Lib.hid hp
  have HO := Lib.hid ho
  have HV := Lib.hid hv
  have HCB := Lib.hid hcb
  have hop := hv.size.opn
  have hcn : cb < q.points.length := by have := hv.size.cn; have := hv.size.pts; omega
  have hlo : lowR q = nthI q.points cb := by unfold lowR; rw [hcb]; rfl
  have hlo9 := low_in hv cb
  rw [← hlo] at hlo9
  obtain ⟨lo, hloE⟩ : ∃ lo, lo = lowR q := ⟨_, rfl⟩
  have HH0 := Lib.hid (show highTo q 0 = lo by rw [hloE]; rfl)
  rw [← hloE] at hlo hlo9 ⊢
  obtain ⟨no, hno⟩ : ∃ no, no = q.opn.length := ⟨_, rfl⟩
  have HHR := Lib.hid (show highR q = highTo q no by rw [hno]; rfl)
  rw [← hno] at hop ⊢
  have HNO2 := Lib.hid hno
  have HLO := Lib.hid hlo
  obtain ⟨hlo1, hlo2⟩ := hlo9
  clear hno hlo hloE hcb h hc hp ho hv
  go_enter Try.func57, Try.ntmps57
  go_upto_region 1 with fail
  refine nameC fun W1 hW1 => ?_
  have hb1 : Below w.heap.size w W1 := by rw [hW1.out]; exact (Below.refl _ _).alloc (Nat.le_refl _) _
  have k0 : W1.heap[w.heap.size]? = some (.cells #[.int .i64 q.win, .int .i64 q.draw, .slice cA q.clubs.length cc, .slice pA q.points.length pc, .slice oA no oc, .int .i64 (cb : Int), .int .i64 q.place] 25 (0, 0)) := by rw [hW1.out]; exact heap_alloc_new _ _
  have K0 := Lib.hid k0
  have HB1 := Lib.hid hb1
  obtain ⟨pb, po, rfl, hpb, hpc⟩ := HP.out.at_ hb1 hcn
  rw [← HLO.out] at hpc
  have r3 := cell_of (j := 3) k0 rfl
  have r5 := cell_of (j := 5) k0 rfl
  have hcb0 : (0 : Int) ≤ (cb : Int) := by omega
  have hcb1 : (cb : Int) < (q.points.length : Int) := by omega
  clear hW1 hb1 k0
  go_wp2_with fail
  clear hpc r3 r5
  go_loopw [5, 6] (fun s5 s6 wr => ∃ k : Nat, k ≤ no ∧ s5 = .int .i64 (highTo q k) ∧ s6 = .int .i64 (k : Int) ∧ Hid (Below W1.heap.size W1 wr)) (fun _ s6 _ => no - (intOf s6).toNat)
  case atStart => exact ⟨0, Nat.zero_le _, by rw [HH0.out], rfl, Lib.hid (Below.refl _ _)⟩
  case round =>
    obtain ⟨k, hk, rfl, rfl, HB2⟩ := hrel
    have HBW := Lib.hid (HB1.out.trans (HB2.out.mono HB1.out.size))
    have k0 := (HB2.out.block _ (lt_heap K0.out)).trans K0.out
    have r0 := cell_of (j := 0) k0 rfl
    have r4 := cell_of (j := 4) k0 rfl
    have r5 := cell_of (j := 5) k0 rfl
    have hhi := highTo_in HV.out k
    obtain ⟨hi, hhiE⟩ : ∃ hi, hi = highTo q k := ⟨_, rfl⟩
    clear k0
    by_cases hlt : k < no
    · obtain ⟨eb, eo, rfl, heb, hx0, hy0⟩ := HO.out.at_ HBW.out (show k < q.opn.length by rw [← HNO2.out]; exact hlt)
      have hne : nthE q.opn k = q.opn[k]'(by rw [← HNO2.out]; exact hlt) := by unfold nthE; rw [List.getD_eq_getElem?_getD, List.getElem?_eq_getElem, Option.getD_some]
      obtain ⟨⟨x, y⟩, hxy⟩ : ∃ e, e = q.opn[k]'(by rw [← HNO2.out]; exact hlt) := ⟨_, rfl⟩
      rw [← hxy] at hx0 hy0 hne
      dsimp only at hx0 hy0
      have hown : highTo q (k + 1) = if (decide (x = (cb : Int)) || decide (y = (cb : Int))) = true then highTo q k + q.win else highTo q k := by
        rw [← HCB.out]; show (if ownB q k = true then _ else _) = _; unfold ownB; rw [hne]
      rw [← hhiE] at hhi hown ⊢
      obtain ⟨hhi1, hhi2⟩ := hhi
      have HOWN := Lib.hid hown
      have hw1 := HV.out.size.d0
      have hw2 := HV.out.size.dw
      have hw3 := HV.out.size.w9
      have hk0 : (0 : Int) ≤ (k : Int) := by omega
      have hk1 : (k : Int) < (no : Int) := by omega
      clear hhiE hown hne hxy
      by_cases hxc : x = (cb : Int)
      · have hx2 : (x == (cb : Int)) = true := by rw [beq_iff_eq]; exact hxc
        have HN := Lib.hid (show highTo q (k + 1) = hi + q.win by rw [HOWN.out, decide_eq_true hxc, Bool.true_or, if_pos rfl])
        clear hxc
        go_wp2_with fail
        go_quiet (fail)
        go_wp2_with fail
        go_roundw
        case rel => exact ⟨k + 1, by omega, by rw [HN.out], by go_num, Lib.hid (bDrewN HB2.out _)⟩
        case measure => simp [intOf]; omega
      · have hx2 : (x == (cb : Int)) = false := by rw [beq_eq_false_iff_ne]; exact hxc
        by_cases hyc : y = (cb : Int)
        · have hy2 : (y == (cb : Int)) = true := by rw [beq_iff_eq]; exact hyc
          have HN := Lib.hid (show highTo q (k + 1) = hi + q.win by rw [HOWN.out, decide_eq_true hyc, Bool.or_true, if_pos rfl])
          clear hxc hyc
          go_wp2_with fail
          go_quiet (fail)
          go_wp2_with fail
          go_roundw
          case rel => exact ⟨k + 1, by omega, by rw [HN.out], by go_num, Lib.hid (bDrewN HB2.out _)⟩
          case measure => simp [intOf]; omega
        · have hy2 : (y == (cb : Int)) = false := by rw [beq_eq_false_iff_ne]; exact hyc
          have HN := Lib.hid (show highTo q (k + 1) = hi by rw [HOWN.out, decide_eq_false hxc, decide_eq_false hyc]; rfl)
          clear hxc hyc
          go_wp2_with fail
          go_quiet (fail)
          go_wp2_with fail
          go_roundw
          case rel => exact ⟨k + 1, by omega, by rw [HN.out], by go_num, Lib.hid (bDrewN HB2.out _)⟩
          case measure => simp [intOf]; omega
    · have hnl : ¬ (k : Int) < (no : Int) := by omega
      obtain rfl : k = no := by omega
      rw [← hhiE]
      rw [← hhiE] at HHR
      clear hhiE hhi
      go_wp2_with fail
      go_ret2
      exact ⟨by rw [HHR.out]; rfl, HBW.out⟩
end Go.Proofs.Ythlnfjbedehjdaa
