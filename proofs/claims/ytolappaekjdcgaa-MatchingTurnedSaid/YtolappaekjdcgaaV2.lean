/- The reference: vertex, Size, Member, Has, Set; few. -/
import Derived.Test.YtolappaekjdcgaaA4
namespace Go.Proofs.Ytolappaekjdcgaa
open Go.RowKit
def vtxB (v n : Int) : Bool := decide (0 ≤ v) && decide (v < n)
theorem vertex_any (w : World) (v n : Int) : Calls Try.prog 25 #[.int .i64 v, .int .i64 n] w fun e w' => e = .returned (.bool (vtxB v n)) ∧ w = w' := by
  have HV : Hid (vtxB v n = (decide (0 ≤ v) && decide (v < n))) := rfl
  obtain ⟨z, hz⟩ : ∃ z, z = vtxB v n := ⟨_, rfl⟩
  rw [← hz] at HV ⊢
  clear hz
  by_cases h0 : 0 ≤ v
  · have d0 : decide (0 ≤ v) = true := decide_eq_true h0
    cases hd : decide (v < n)
    · have HZ : Hid (z = false) := Lib.hid (by rw [HV.out, hd, Bool.and_false])
      go_enter Try.func25, Try.ntmps25
      go_wp2_with fail
      go_ret
      exact ⟨ret_bool HZ.out.symm, rfl⟩
    · have HZ : Hid (z = true) := Lib.hid (by rw [HV.out, hd, d0]; rfl)
      go_enter Try.func25, Try.ntmps25
      go_wp2_with fail
      go_ret
      exact ⟨ret_bool HZ.out.symm, rfl⟩
  · have d0 : decide (0 ≤ v) = false := decide_eq_false h0
    have HZ : Hid (z = false) := Lib.hid (by rw [HV.out, d0, Bool.false_and])
    go_enter Try.func25, Try.ntmps25
    go_wp2_with fail
    go_ret
    exact ⟨ret_bool HZ.out.symm, rfl⟩
/-- how many are not -1 -/
def szI (m : List Int) : Nat := m.countP fun x => x != -1
theorem szI_snoc {m : List Int} {k : Nat} (hk : k < m.length) : szI (m.take (k + 1)) = szI (m.take k) + if nthI m k != -1 then 1 else 0 := by
  unfold szI
  rw [List.take_succ_eq_append_getElem hk, nthI_get hk, List.countP_append, List.countP_singleton]
theorem szI_le (m : List Int) (k : Nat) : szI (m.take k) ≤ k := by
  unfold szI
  exact Nat.le_trans (List.countP_le_length) (List.length_take_le k m)
theorem size_any (w : World) (M : Nat → Prop) (v : Value) (m : List Int) (h : IsInts w M v m) : Calls Try.prog 17 #[v] w fun e w' => e = .returned (.int .i64 (szI m : Int)) ∧ w = w' := by
  have HI := Lib.hid h
  obtain ⟨A, c, rfl, h1, h2, -⟩ := h
  have HF : Hid (szI (m.take m.length) = szI m) := Lib.hid (by rw [List.take_length])
  obtain ⟨z, hz⟩ : ∃ z, z = szI m := ⟨_, rfl⟩
  rw [← hz] at HF ⊢
  clear hz
  go_enter Try.func17, Try.ntmps17
  go_wp2_with fail
  go_loop [3, 4] (fun q3 q4 => ∃ k n : Nat, k ≤ m.length ∧ n ≤ k ∧ q4 = .int .i64 (k : Int) ∧ q3 = .int .i64 (n : Int) ∧ Hid (szI (m.take k) = n)) (fun _ q => m.length - (intOf q).toNat)
  case atStart => exact ⟨0, 0, Nat.zero_le _, Nat.le_refl _, rfl, rfl, Lib.hid rfl⟩
  case round =>
    obtain ⟨k, n, hk, hn, rfl, rfl, HS⟩ := hrel
    by_cases hlt : k < m.length
    · have hlt2 : (k : Int) < (m.length : Int) := by omega
      have hk0 : (0 : Int) ≤ (k : Int) := by omega
      obtain ⟨b, off, rfl, hb, e0⟩ := HI.out.at_ (Below.refl _ _) hlt
      have HSn := Lib.hid (szI_snoc hlt)
      obtain ⟨x, hx⟩ : ∃ x, x = nthI m k := ⟨_, rfl⟩
      rw [← hx] at e0 HSn
      clear hx
      cases ht : (x != -1)
      · have HE : Hid (szI (m.take (k + 1)) = n) := Lib.hid (by rw [HSn.out, HS.out, ht]; rfl)
        go_wp2_with fail
        go_round
        case rel => exact ⟨k + 1, n, by omega, by omega, by go_num, rfl, HE⟩
        case measure => simp [intOf]; omega
      · have HE : Hid (szI (m.take (k + 1)) = n + 1) := Lib.hid (by rw [HSn.out, HS.out, ht]; rfl)
        go_wp2_with fail
        go_round
        case rel => exact ⟨k + 1, n + 1, by omega, by omega, by go_num, by go_num, HE⟩
        case measure => simp [intOf]; omega
    · have hnl : ¬ (k : Int) < (m.length : Int) := by omega
      obtain rfl : m.length = k := by omega
      have HE : Hid (n = z) := Lib.hid (by rw [← HS.out, HF.out])
      go_wp2_with fail
      go_ret
      exact ⟨ret_int (by rw [HE.out]), rfl⟩
/-- x is not among the first k -/
def noI (l : List Int) (x : Int) (k : Nat) : Prop := ∀ j, j < k → nthI l j ≠ x
theorem noI_succ {l : List Int} {x : Int} {k : Nat} (h : noI l x k) (hne : nthI l k ≠ x) : noI l x (k + 1) := fun j hj => by
  rcases Nat.lt_or_ge j k with h1 | h1
  · exact h j h1
  · rw [show j = k by omega]; exact hne
theorem noI_all {l : List Int} {x : Int} (h : noI l x l.length) : l.contains x = false := by
  rw [Bool.eq_false_iff]
  intro hc
  rw [List.contains_iff_mem, List.mem_iff_getElem] at hc
  obtain ⟨j, hj, e⟩ := hc
  exact h j hj (by rw [nthI_get hj]; exact e)
theorem hasI {l : List Int} {x : Int} {k : Nat} (hk : k < l.length) (h : nthI l k = x) : l.contains x = true := by
  rw [List.contains_iff_mem, ← h, nthI_get hk]
  exact List.getElem_mem hk
theorem member_any (w : World) (M : Nat → Prop) (v : Value) (l : List Int) (h : IsInts w M v l) (x : Int) : Calls Try.prog 31 #[v, .int .i64 x] w fun e w' => e = .returned (.bool (l.contains x)) ∧ w = w' := by
  have HI := Lib.hid h
  obtain ⟨A, c, rfl, h1, h2, -⟩ := h
  have HY := Lib.hid (fun k hk h => @hasI l x k hk h)
  have HN := Lib.hid (fun h => @noI_all l x h)
  obtain ⟨z, hz⟩ : ∃ z, z = l.contains x := ⟨_, rfl⟩
  rw [← hz] at HY HN ⊢
  clear hz
  go_enter Try.func31, Try.ntmps31
  go_wp2_with fail
  go_loop [5] (fun q => ∃ k : Nat, k ≤ l.length ∧ q = .int .i64 (k : Int) ∧ Hid (noI l x k)) (fun q => l.length - (intOf q).toNat)
  case atStart => exact ⟨0, Nat.zero_le _, rfl, Lib.hid (fun j hj => absurd hj (by omega))⟩
  case round =>
    obtain ⟨k, hk, rfl, HS⟩ := hrel
    by_cases hlt : k < l.length
    · have hlt2 : (k : Int) < (l.length : Int) := by omega
      have hk0 : (0 : Int) ≤ (k : Int) := by omega
      obtain ⟨b, off, rfl, hb, e0⟩ := HI.out.at_ (Below.refl _ _) hlt
      have HSn := Lib.hid (fun h => noI_succ HS.out (k := k) h)
      have HYk := Lib.hid (HY.out k hlt)
      obtain ⟨y, hy⟩ : ∃ y, y = nthI l k := ⟨_, rfl⟩
      rw [← hy] at e0 HSn HYk
      clear hy
      by_cases hyx : y = x
      · have HZ := Lib.hid (HYk.out hyx)
        have ht : (y == x) = true := by simp [hyx]
        clear hyx
        go_wp2_with fail
        go_ret
        exact ⟨ret_bool HZ.out.symm, rfl⟩
      · have HZ := Lib.hid (HSn.out hyx)
        have ht : (y == x) = false := by simpa using hyx
        clear hyx
        go_wp2_with fail
        go_round
        case rel => exact ⟨k + 1, by omega, by go_num, HZ⟩
        case measure => simp [intOf]; omega
    · have hnl : ¬ (k : Int) < (l.length : Int) := by omega
      obtain rfl : l.length = k := by omega
      have HZ := Lib.hid (HN.out HS.out)
      go_wp2_with fail
      go_ret
      exact ⟨ret_bool HZ.out.symm, rfl⟩
/-- an ascending list of vertices -/
def okS (l : List Int) (n : Int) (i : Nat) : Bool := vtxB (nthI l i) n && (decide (i = 0) || decide (nthI l (i - 1) < nthI l i))
def setB (l : List Int) (n : Int) : Bool := (List.range l.length).all (okS l n)
def okSTo (l : List Int) (n : Int) (k : Nat) : Prop := ∀ i, i < k → okS l n i = true
theorem okSTo_succ {l : List Int} {n : Int} {k : Nat} (h : okSTo l n k) (hk : okS l n k = true) : okSTo l n (k + 1) := fun j hj => by
  rcases Nat.lt_or_ge j k with h1 | h1
  · exact h j h1
  · rw [show j = k by omega]; exact hk
theorem setB_no {l : List Int} {n : Int} {k : Nat} (hk : k < l.length) (h : okS l n k = false) : setB l n = false := by
  unfold setB
  rw [List.all_eq_false.2 ⟨k, List.mem_range.2 hk, by rw [h]; decide⟩]
theorem setB_yes {l : List Int} {n : Int} (h : okSTo l n l.length) : setB l n = true := by
  unfold setB
  rw [List.all_eq_true.2 fun i hi => h i (List.mem_range.1 hi)]
set_option maxHeartbeats 1000000 in
theorem set_any (w : World) (M : Nat → Prop) (v : Value) (l : List Int) (h : IsInts w M v l) (n : Int) : Calls Try.prog 22 #[v, .int .i64 n] w fun e w' => e = .returned (.bool (setB l n)) ∧ ∃ q, w' = w.drewN q := by
  have HI := Lib.hid h
  have CV := fun W x => Lib.hid (vertex_any W x n)
  obtain ⟨A, c, rfl, h1, h2, -⟩ := h
  have HNo := Lib.hid (fun k hk h => @setB_no l n k hk h)
  have HYes := Lib.hid (fun h => @setB_yes l n h)
  obtain ⟨z, hz⟩ : ∃ z, z = setB l n := ⟨_, rfl⟩
  rw [← hz] at HNo HYes ⊢
  clear hz
  go_enter Try.func22, Try.ntmps22
  go_wp2_with fail
  go_loopw [5] (fun q wr => ∃ k : Nat, k ≤ l.length ∧ q = .int .i64 (k : Int) ∧ Hid (okSTo l n k) ∧ Hid (∃ q, wr = w.drewN q)) (fun q _ => l.length - (intOf q).toNat)
  case atStart => exact ⟨0, Nat.zero_le _, rfl, Lib.hid (fun j hj => absurd hj (by omega)), Lib.hid ⟨0, rfl⟩⟩
  case round =>
    obtain ⟨k, hk, rfl, HS, HD⟩ := hrel
    have hBd : Below w.heap.size w wr := by obtain ⟨q, e⟩ := HD.out; rw [e]; exact below_drewN (Below.refl _ _) _
    have HDn : Hid (∀ n, ∃ q, wr.drewN n = w.drewN q) := Lib.hid fun n => by obtain ⟨q, e⟩ := HD.out; exact ⟨q + n, by rw [e, World.drewN_drewN]⟩
    by_cases hlt : k < l.length
    · have hlt2 : (k : Int) < (l.length : Int) := by omega
      have hk0 : (0 : Int) ≤ (k : Int) := by omega
      obtain ⟨b, off, rfl, hb, e0⟩ := HI.out.at_ hBd hlt
      have HPrev : Hid (0 < k → wr.cell? ⟨b, off + (k - 1), none⟩ = some (.int .i64 (nthI l (k - 1)))) := Lib.hid (fun h0 => by
        obtain ⟨b', off', e, -, p0⟩ := HI.out.at_ hBd (show k - 1 < l.length by omega)
        cases e
        exact p0)
      have HOV : Hid (okS l n k = (vtxB (nthI l k) n && (decide (k = 0) || decide (nthI l (k - 1) < nthI l k)))) := rfl
      have HSn := Lib.hid (fun h => okSTo_succ HS.out (k := k) h)
      have HNk := Lib.hid (HNo.out k hlt)
      obtain ⟨y, hy⟩ : ∃ y, y = nthI l k := ⟨_, rfl⟩
      obtain ⟨p, hp⟩ : ∃ p, p = nthI l (k - 1) := ⟨_, rfl⟩
      rw [← hy] at e0 HOV
      rw [← hp] at HOV HPrev
      clear hy hp
      have CY := fun W => Lib.hid (CV W y)
      cases hv : vtxB y n
      · have HZ := Lib.hid (HNk.out (by rw [HOV.out, hv, Bool.false_and]))
        rw [hv] at CY
        clear hv
        go_wp2_with fail
        go_quiet ((go_at_call 25; exact Calls.quiet_of ((CY _).out.out.mono fun e w' ⟨h1, h2⟩ => ⟨h1, 0, h2.symm⟩)))
        go_wp2_with fail
        go_ret
        exact ⟨ret_bool HZ.out.symm, HDn.out _⟩
      · rw [hv] at CY
        rcases Nat.eq_zero_or_pos k with hk00 | hkp
        · have HZ := Lib.hid (HSn.out (by rw [HOV.out, hv, decide_eq_true hk00]; rfl))
          have dk : decide ((0 : Int) < (k : Int)) = false := decide_eq_false (by omega)
          have dk2 : decide (0 < k) = false := decide_eq_false (by omega)
          clear hv hk00
          go_wp2_with fail
          go_quiet ((go_at_call 25; exact Calls.quiet_of ((CY _).out.out.mono fun e w' ⟨h1, h2⟩ => ⟨h1, 0, h2.symm⟩)))
          go_wp2_with fail
          go_roundw
          case rel => exact ⟨k + 1, by omega, by go_num, HZ, Lib.hid (HDn.out _)⟩
          case measure => simp [intOf]; omega
        · obtain ⟨m, rfl⟩ : ∃ m, k = m + 1 := ⟨k - 1, by omega⟩
          have hp0 := HPrev.out hkp
          rw [Nat.add_sub_cancel] at hp0
          have hm1 : ((m + 1 : Nat) : Int) = (m : Int) + 1 := by omega
          rw [hm1] at hlt2 hk0 ⊢
          have dk : decide ((0 : Int) < (m : Int) + 1) = true := decide_eq_true (by omega)
          have dk2 : decide (0 < m + 1) = true := decide_eq_true (by omega)
          have hml : (m : Int) < (l.length : Int) := by omega
          have hmn : m < l.length := by omega
          have hw1 : IntKind.i64.wrap ((m : Int) + 1 - 1) = (m : Int) := by rw [show (m : Int) + 1 - 1 = (m : Int) by omega]; exact IntWalk.i64_in _ (by omega)
          have hw2 : IntKind.i64.wrap (m : Int) = (m : Int) := IntWalk.i64_in _ (by omega)
          clear hm1 HPrev
          cases hd : decide (p < y)
          · have HZ := Lib.hid (HNk.out (by rw [HOV.out, hv, hd, decide_eq_false (by omega)]; rfl))
            have hd2 : decide (y ≤ p) = true := decide_eq_true (by have := of_decide_eq_false hd; omega)
            clear hv hd
            go_wp2_with fail
            go_quiet ((go_at_call 25; exact Calls.quiet_of ((CY _).out.out.mono fun e w' ⟨h1, h2⟩ => ⟨h1, 0, h2.symm⟩)))
            go_wp2_with fail
            go_ret
            exact ⟨ret_bool HZ.out.symm, HDn.out _⟩
          · have HZ := Lib.hid (HSn.out (by rw [HOV.out, hv, hd]; simp))
            have hd2 : decide (y ≤ p) = false := decide_eq_false (by have := of_decide_eq_true hd; omega)
            clear hv hd
            go_wp2_with fail
            go_quiet ((go_at_call 25; exact Calls.quiet_of ((CY _).out.out.mono fun e w' ⟨h1, h2⟩ => ⟨h1, 0, h2.symm⟩)))
            go_wp2_with fail
            go_roundw
            case rel => exact ⟨m + 1 + 1, by omega, by go_num, HZ, Lib.hid (HDn.out _)⟩
            case measure => simp [intOf]; omega
    · have hnl : ¬ (k : Int) < (l.length : Int) := by omega
      obtain rfl : l.length = k := by omega
      have HZ := Lib.hid (HYes.out HS.out)
      go_wp2_with fail
      go_ret
      exact ⟨ret_bool HZ.out.symm, HD.out⟩
end Go.Proofs.Ytolappaekjdcgaa
