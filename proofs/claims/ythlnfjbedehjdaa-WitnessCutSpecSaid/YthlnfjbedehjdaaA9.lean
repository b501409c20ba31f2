/- isSet. -/
import Derived.Test.YthlnfjbedehjdaaA8
namespace Go.Proofs.Ythlnfjbedehjdaa
open Go.RowKit Go.Shelf

def SetOk (q : RaceD) (l : List Int) (i : Nat) : Prop := 0 ≤ nthI l i ∧ nthI l i < q.clubs.length ∧ nthI l i ≠ q.club ∧ (0 < i → nthI l (i - 1) < nthI l i)
instance (q : RaceD) (l : List Int) (i : Nat) : Decidable (SetOk q l i) := by unfold SetOk; infer_instance
def setB (q : RaceD) (l : List Int) : Bool := (List.range l.length).all fun k => decide (SetOk q l k)
set_option maxRecDepth 20000 in
set_option maxHeartbeats 4000000 in
theorem isSet_any (w : World) (M M' : Nat → Prop) (v u : Value) (q : RaceD) (l : List Int) (h : IsRace w M v q) (h' : IsInts w M' u l) (hlen : l.length ≤ 140737488355328) : Calls Try.prog 51 #[v, u] w fun e w' => e = .returned (.bool (setB q l)) ∧ Below w.heap.size w w' := by
  obtain ⟨cA, cc, pA, pc, oA, oc, rfl, -⟩ := h.parts
  obtain ⟨uA, uc, rfl, -⟩ := id h'
  have HU := Lib.hid h'
  clear h h'
  obtain ⟨n, hn⟩ : ∃ n, n = q.clubs.length := ⟨_, rfl⟩
  obtain ⟨m, hm⟩ : ∃ m, m = l.length := ⟨_, rfl⟩
  obtain ⟨c, hc⟩ : ∃ c, c = q.club := ⟨_, rfl⟩
  have HOKI := fun k => Lib.hid (show SetOk q l k ↔ (0 ≤ nthI l k ∧ nthI l k < n ∧ nthI l k ≠ c ∧ (0 < k → nthI l (k - 1) < nthI l k)) by rw [hn, hc]; exact Iff.rfl)
  have HB := Lib.hid (show setB q l = (List.range m).all fun k => decide (SetOk q l k) by rw [hm]; rfl)
  rw [← hn, ← hm, ← hc]
  rw [← hm] at hlen
  have HM := Lib.hid hm
  clear hn hm hc
  obtain ⟨z, hz⟩ : ∃ z, z = setB q l := ⟨_, rfl⟩
  rw [← hz] at HB ⊢
  clear hz
  go_enter Try.func51, Try.ntmps51
  go_wp2_with fail
  refine nameC fun W1 hW1 => ?_
  have hb1 : Below w.heap.size w W1 := by rw [hW1.out]; exact (Below.refl _ _).alloc (Nat.le_refl _) _
  have k0 : W1.heap[w.heap.size]? = some (.cells #[.int .i64 q.win, .int .i64 q.draw, .slice cA n cc, .slice pA q.points.length pc, .slice oA q.opn.length oc, .int .i64 c, .int .i64 q.place] 55 (0, 0)) := by rw [hW1.out]; exact heap_alloc_new _ _
  have r2 := cell_of (j := 2) k0 rfl
  have r5 := cell_of (j := 5) k0 rfl
  have HB1 := Lib.hid hb1
  clear hW1 hb1 k0
  go_loop [9] (fun i => ∃ k : Nat, k ≤ m ∧ i = .int .i64 (k : Int) ∧ Hid (∀ j, j < k → SetOk q l j)) (fun i => m - (intOf i).toNat)
  case atStart => exact ⟨0, Nat.zero_le _, rfl, Lib.hid fun j hj => absurd hj (by omega)⟩
  case round =>
    obtain ⟨k, hk, rfl, HT⟩ := hrel
    by_cases hlt : k < m
    case neg =>
      have hnl : ¬ (k : Int) < (m : Int) := by omega
      obtain rfl : k = m := by omega
      have HQ := Lib.hid (show z = true by rw [HB.out, List.all_eq_true]; exact fun j hj => decide_eq_true (HT.out j (List.mem_range.1 hj)))
      go_wp2_with fail
      go_ret
      exact ⟨ret_bool HQ.out.symm, HB1.out⟩
    obtain ⟨ub, uo, rfl, hub, hck⟩ := HU.out.at_ HB1.out (show k < l.length by rw [← HM.out]; exact hlt)
    have hy : 0 < k → W1.cell? ⟨ub, uo + (k - 1), none⟩ = some (.int .i64 (nthI l (k - 1))) := fun h0 => by
      obtain ⟨cb', co', e, -, hck'⟩ := HU.out.at_ HB1.out (show k - 1 < l.length by rw [← HM.out]; omega)
      simp only [Option.some.injEq, Addr.mk.injEq, and_true] at e
      rw [e.1, e.2]; exact hck'
    have HY := Lib.hid hy
    have HKI := HOKI k
    have hbad : ¬ SetOk q l k → z = false := fun hn => by rw [HB.out, List.all_eq_false]; exact ⟨k, List.mem_range.2 hlt, by simpa using hn⟩
    have HBAD := Lib.hid hbad
    obtain ⟨x, hx⟩ : ∃ x, x = nthI l k := ⟨_, rfl⟩
    obtain ⟨y, hy'⟩ : ∃ y, y = nthI l (k - 1) := ⟨_, rfl⟩
    rw [← hx] at hck HKI
    rw [← hy'] at HKI HY
    have hk0 : (0 : Int) ≤ (k : Int) := by omega
    have hk1 : (k : Int) < (m : Int) := by omega
    have hm9 : (m : Int) ≤ 140737488355328 := by omega
    clear hy hx hy' hbad HOKI
    by_cases hk9 : k = 0
    · skip
      have dk : decide ((0 : Int) < (k : Int)) = false := by rw [decide_eq_false_iff_not]; omega
      have dk2 : decide (0 < k) = false := by rw [decide_eq_false_iff_not]; omega
      have HK9 := Lib.hid hk9
      clear hk9
      by_cases t0 : x < 0
      · skip
        have HQ := Lib.hid (HBAD.out (by rw [HKI.out]; have := HK9.out; omega))
        have dt0 : decide (x < 0) = true := by rw [decide_eq_true_eq]; omega
        clear t0
        go_wp2_with fail
        go_ret
        exact ⟨ret_bool HQ.out.symm, HB1.out⟩
      have dt0 : decide (x < 0) = false := by rw [decide_eq_false_iff_not]; omega
      by_cases t1 : (n : Int) ≤ x
      · skip
        have HQ := Lib.hid (HBAD.out (by rw [HKI.out]; have := HK9.out; omega))
        have dt1 : decide ((n : Int) ≤ x) = true := by rw [decide_eq_true_eq]; omega
        clear t0 t1
        go_wp2_with fail
        go_ret
        exact ⟨ret_bool HQ.out.symm, HB1.out⟩
      have dt1 : decide ((n : Int) ≤ x) = false := by rw [decide_eq_false_iff_not]; omega
      by_cases t2 : x = c
      · skip
        have HQ := Lib.hid (HBAD.out (by rw [HKI.out]; have := HK9.out; omega))
        have dt2 : (x == c) = true := by simpa using t2
        clear t0 t1 t2
        go_wp2_with fail
        go_ret
        exact ⟨ret_bool HQ.out.symm, HB1.out⟩
      have dt2 : (x == c) = false := by simpa using t2
      have hs : SetOk q l (k) := by rw [HKI.out]; have := HK9.out; omega
      have HT2 := Lib.hid (show ∀ j', j' < k + 1 → SetOk q l j' from fun j' hj => by rcases Nat.lt_or_ge j' (k) with h | h; exact HT.out j' h; rw [show j' = k by omega]; exact hs)
      clear hs t0 t1 t2
      go_wp2_with fail
      go_round
      case rel => exact ⟨k + 1, by omega, by go_num, HT2⟩
      case measure => simp [intOf]; omega
    obtain ⟨j, rfl⟩ : ∃ j, k = j + 1 := ⟨k - 1, by omega⟩
    have hyc : W1.cell? ⟨ub, uo + j, none⟩ = some (.int .i64 y) := HY.out (by omega)
    have dk : decide ((0 : Int) < (j : Int) + 1) = true := by rw [decide_eq_true_eq]; omega
    have hj0 : (0 : Int) ≤ (j : Int) := by omega
    have hj1 : (j : Int) < (m : Int) := by omega
    have HK9 := Lib.hid hk9
    clear hk9
    by_cases t0 : x < 0
    · skip
      have HQ := Lib.hid (HBAD.out (by rw [HKI.out]; have := HK9.out; omega))
      have dt0 : decide (x < 0) = true := by rw [decide_eq_true_eq]; omega
      clear t0
      go_wp2_with fail
      go_ret
      exact ⟨ret_bool HQ.out.symm, HB1.out⟩
    have dt0 : decide (x < 0) = false := by rw [decide_eq_false_iff_not]; omega
    by_cases t1 : (n : Int) ≤ x
    · skip
      have HQ := Lib.hid (HBAD.out (by rw [HKI.out]; have := HK9.out; omega))
      have dt1 : decide ((n : Int) ≤ x) = true := by rw [decide_eq_true_eq]; omega
      clear t0 t1
      go_wp2_with fail
      go_ret
      exact ⟨ret_bool HQ.out.symm, HB1.out⟩
    have dt1 : decide ((n : Int) ≤ x) = false := by rw [decide_eq_false_iff_not]; omega
    by_cases t2 : x = c
    · skip
      have HQ := Lib.hid (HBAD.out (by rw [HKI.out]; have := HK9.out; omega))
      have dt2 : (x == c) = true := by simpa using t2
      clear t0 t1 t2
      go_wp2_with fail
      go_ret
      exact ⟨ret_bool HQ.out.symm, HB1.out⟩
    have dt2 : (x == c) = false := by simpa using t2
    by_cases t3 : x ≤ y
    · skip
      have HQ := Lib.hid (HBAD.out (by rw [HKI.out]; have := HK9.out; omega))
      have dt3 : decide (x ≤ y) = true := by rw [decide_eq_true_eq]; omega
      clear t0 t1 t2 t3
      go_wp2_with fail
      go_ret
      exact ⟨ret_bool HQ.out.symm, HB1.out⟩
    have dt3 : decide (x ≤ y) = false := by rw [decide_eq_false_iff_not]; omega
    have hs : SetOk q l (j + 1) := by rw [HKI.out]; have := HK9.out; omega
    have HT2 := Lib.hid (show ∀ j', j' < j + 1 + 1 → SetOk q l j' from fun j' hj => by rcases Nat.lt_or_ge j' (j + 1) with h | h; exact HT.out j' h; rw [show j' = j + 1 by omega]; exact hs)
    clear hs t0 t1 t2 t3
    go_wp2_with fail
    go_round
    case rel => exact ⟨j + 1 + 1, by omega, by go_num, HT2⟩
    case measure => simp [intOf]; omega
end Go.Proofs.Ythlnfjbedehjdaa
