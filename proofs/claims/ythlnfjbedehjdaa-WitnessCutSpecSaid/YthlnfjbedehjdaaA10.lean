/- slices.Index, Contains and Equal at ints; the reference's member and same. -/
import Derived.Test.YthlnfjbedehjdaaA9
import Derived.BigQuiet
namespace Go.Proofs.Ythlnfjbedehjdaa
open Go.RowKit Go.Shelf

theorem bDrewN {B : Nat} {a w : World} (h : Below B a w) (n : Nat) : Below B a (w.drewN n) := h.trans ⟨rfl, rfl, rfl, Nat.le_refl _, fun _ _ => rfl⟩
theorem index_any (w : World) (M : Nat → Prop) (v : Value) (l : List Int) (h : IsInts w M v l) (x : Int) (hlen : l.length ≤ 140737488355328) :
    Calls Try.prog 79 #[v, .int .i64 x] w fun e w' => e = .returned (.int .i64 (idxI l x)) ∧ w = w' := by
  have H := Lib.hid h
  obtain ⟨A, c, rfl, h1, h2, -⟩ := h
  obtain ⟨n, hn⟩ : ∃ n, n = l.length := ⟨_, rfl⟩
  have HN := Lib.hid hn
  rw [← hn] at hlen
  rw [← hn]
  clear hn h1 h2
  skip
  go_enter Try.func79, Try.ntmps79
  go_wp2_with fail
  go_loop [8] (fun i => ∃ k : Nat, k ≤ n ∧ i = .int .i64 k ∧ Hid (noneTo (fun i => nthI l i == x) k)) (fun i => n - (intOf i).toNat)
  case atStart => exact ⟨0, Nat.zero_le _, rfl, Lib.hid (fun j hj => absurd hj (by omega))⟩
  case round =>
    obtain ⟨k, hk, rfl, HO⟩ := hrel
    by_cases hlt : k < n
    · obtain ⟨b, off, rfl, hbl, hck⟩ := H.out.at_ (Below.refl _ _) (show k < l.length by rw [← HN.out]; exact hlt)
      have hlt' : (k : Int) < (n : Int) := by omega
      have hk0 : (0 : Int) ≤ (k : Int) := by omega
      obtain ⟨y, hy⟩ : ∃ y, nthI l k = y := ⟨_, rfl⟩
      rw [hy] at hck
      by_cases hxy : y = x
      · have HS := Lib.hid (idxF_some (p := fun i => nthI l i == x) (show k < l.length by rw [← HN.out]; exact hlt) (by rw [hy]; simpa using hxy) HO.out)
        have ht : (x == y) = true := by simp [hxy]
        clear hxy hy
        go_wp2_with fail
        go_ret
        exact ⟨ret_int HS.out.symm, rfl⟩
      · have HS := Lib.hid (noneTo_succ HO.out (show (nthI l k == x) = false by rw [hy]; simpa using hxy))
        have ht : (x == y) = false := by simpa using fun e => hxy e.symm
        clear hxy hy
        go_wp2_with fail
        go_round
        case rel => exact ⟨k + 1, by omega, by go_num, HS⟩
        case measure => simp [intOf]; omega
    · have hnl : ¬ (k : Int) < (n : Int) := by omega
      obtain rfl : k = n := by omega
      have HS := Lib.hid (idxF_none (p := fun i => nthI l i == x) HO.out)
      rw [HN.out] at HS
      go_wp2_with fail
      go_ret
      exact ⟨ret_int HS.out.symm, rfl⟩
theorem contains_any (w : World) (M : Nat → Prop) (v : Value) (l : List Int) (h : IsInts w M v l) (x : Int) (hlen : l.length ≤ 140737488355328) :
    Calls Try.prog 53 #[v, .int .i64 x] w fun e w' => e = .returned (.bool (l.contains x)) ∧ w = w' := by
  have C := Lib.hid (index_any w M v l h x hlen)
  obtain ⟨A, c, rfl, h1, h2, -⟩ := h
  clear h1 h2
  rw [← idxI_has]
  generalize idxI l x = z at C ⊢
  generalize l.length = n at C ⊢
  go_enter Try.func53, Try.ntmps53
  go_wp2_with fail
  refine C.out.mono ?_
  rintro e w' ⟨rfl, rfl⟩
  go_wp2_with fail
  go_ret
  exact ⟨rfl, rfl⟩
theorem rmember_z (w : World) (M : Nat → Prop) (v : Value) (l : List Int) (h : IsInts w M v l) (x : Int) (hlen : l.length ≤ 140737488355328) (z : Bool) (hz : z = decide (0 ≤ idxI l x)) :
    Calls Try.prog 58 #[v, .int .i64 x] w fun e w' => e = .returned (.bool z) ∧ w = w' := by
  have H := Lib.hid h
  obtain ⟨A, c, rfl, h1, h2, -⟩ := h
  obtain ⟨n, hn⟩ : ∃ n, n = l.length := ⟨_, rfl⟩
  have HN := Lib.hid hn
  rw [← hn] at hlen
  rw [← hn]
  clear hn h1 h2
  have HZ := Lib.hid hz
  clear hz
  go_enter Try.func58, Try.ntmps58
  go_wp2_with fail
  go_loop [5] (fun i => ∃ k : Nat, k ≤ n ∧ i = .int .i64 k ∧ Hid (noneTo (fun i => nthI l i == x) k)) (fun i => n - (intOf i).toNat)
  case atStart => exact ⟨0, Nat.zero_le _, rfl, Lib.hid (fun j hj => absurd hj (by omega))⟩
  case round =>
    obtain ⟨k, hk, rfl, HO⟩ := hrel
    by_cases hlt : k < n
    · obtain ⟨b, off, rfl, hbl, hck⟩ := H.out.at_ (Below.refl _ _) (show k < l.length by rw [← HN.out]; exact hlt)
      have hlt' : (k : Int) < (n : Int) := by omega
      have hk0 : (0 : Int) ≤ (k : Int) := by omega
      obtain ⟨y, hy⟩ : ∃ y, nthI l k = y := ⟨_, rfl⟩
      rw [hy] at hck
      by_cases hxy : y = x
      · have HS := Lib.hid (idxF_some (p := fun i => nthI l i == x) (show k < l.length by rw [← HN.out]; exact hlt) (by rw [hy]; simpa using hxy) HO.out)
        have ht : (y == x) = true := by simp [hxy]
        clear hxy hy
        go_wp2_with fail
        go_ret
        exact ⟨ret_bool (HZ.out.trans (by unfold idxI; rw [HS.out]; simp)).symm, rfl⟩
      · have HS := Lib.hid (noneTo_succ HO.out (show (nthI l k == x) = false by rw [hy]; simpa using hxy))
        have ht : (y == x) = false := by simpa using hxy
        clear hxy hy
        go_wp2_with fail
        go_round
        case rel => exact ⟨k + 1, by omega, by go_num, HS⟩
        case measure => simp [intOf]; omega
    · have hnl : ¬ (k : Int) < (n : Int) := by omega
      obtain rfl : k = n := by omega
      have HS := Lib.hid (idxF_none (p := fun i => nthI l i == x) HO.out)
      rw [HN.out] at HS
      go_wp2_with fail
      go_ret
      exact ⟨ret_bool (HZ.out.trans (by unfold idxI; rw [HS.out]; rfl)).symm, rfl⟩
theorem rmember_any (w : World) (M : Nat → Prop) (v : Value) (l : List Int) (h : IsInts w M v l) (x : Int) (hlen : l.length ≤ 140737488355328) :
    Calls Try.prog 58 #[v, .int .i64 x] w fun e w' => e = .returned (.bool (l.contains x)) ∧ w = w' := rmember_z w M v l h x hlen _ (idxI_has l x).symm
theorem equal_any (w : World) (M M' : Nat → Prop) (v v' : Value) (l l' : List Int) (h : IsInts w M v l) (h' : IsInts w M' v' l') (hlen : l.length ≤ 140737488355328) :
    Calls Try.prog 55 #[v, v'] w fun e w' => e = .returned (.bool (l == l')) ∧ Below w.heap.size w w' := by
  have H := Lib.hid h
  have H' := Lib.hid h'
  obtain ⟨A, c, rfl, h1, h2, -⟩ := h
  obtain ⟨A', c', rfl, h1', h2', -⟩ := h'
  obtain ⟨n, hn⟩ : ∃ n, n = l.length := ⟨_, rfl⟩
  obtain ⟨m, hm⟩ : ∃ m, m = l'.length := ⟨_, rfl⟩
  have HN := Lib.hid hn
  have HM := Lib.hid hm
  rw [← hn] at hlen
  rw [← hn, ← hm]
  clear hn hm h1 h2 h1' h2'
  go_enter Try.func55, Try.ntmps55
  by_cases hnm : n = m
  case neg =>
    have HQ := Lib.hid (show (l == l') = false by rw [beq_eq_false_iff_ne]; intro e; exact hnm (by rw [HN.out, HM.out, e]))
    have d1 : ((n : Int) == (m : Int)) = false := by rw [beq_eq_false_iff_ne]; omega
    have d2 : ((n : Int) != (m : Int)) = true := by rw [bne_iff_ne]; omega
    clear hnm
    go_wp2_with fail
    go_ret
    exact ⟨ret_bool HQ.out.symm, Below.refl _ _⟩
  subst hnm
  go_wp2_with fail
  go_loopw [13] (fun i wr => ∃ k : Nat, k ≤ n ∧ i = .int .i64 k ∧ Hid (∀ j, j < k → nthI l j = nthI l' j) ∧ Hid (Below w.heap.size w wr)) (fun i _ => n - (intOf i).toNat)
  case atStart => exact ⟨0, Nat.zero_le _, rfl, Lib.hid (fun j hj => absurd hj (by omega)), Lib.hid (Below.refl _ _)⟩
  case round =>
    obtain ⟨k, hk, rfl, HO, HB⟩ := hrel
    by_cases hlt : k < n
    · obtain ⟨b, off, rfl, hbl, hck⟩ := H.out.at_ HB.out (show k < l.length by rw [← HN.out]; exact hlt)
      obtain ⟨b', off', rfl, hbl', hck'⟩ := H'.out.at_ HB.out (show k < l'.length by rw [← HM.out]; exact hlt)
      have hlt' : (k : Int) < (n : Int) := by omega
      have hk0 : (0 : Int) ≤ (k : Int) := by omega
      by_cases hxy : nthI l k = nthI l' k
      · have HS := Lib.hid (show ∀ j, j < k + 1 → nthI l j = nthI l' j from fun j hj => by
          rcases Nat.lt_or_ge j k with h | h
          · exact HO.out j h
          · rw [show j = k by omega]; exact hxy)
        obtain ⟨y, hy⟩ : ∃ y, nthI l k = y := ⟨_, rfl⟩
        rw [← hxy] at hck'
        rw [hy] at hck hck'
        clear hxy hy
        go_wp2_with fail
        go_quiet (fail)
        go_wp2_with fail
        go_roundw
        case rel => exact ⟨k + 1, by omega, by go_num, HS, Lib.hid (bDrewN HB.out _)⟩
        case measure => simp [intOf]; omega
      · have HS := Lib.hid (show (l == l') = false by rw [beq_eq_false_iff_ne]; intro e; exact hxy (by rw [e]))
        obtain ⟨y, hy⟩ : ∃ y, nthI l k = y := ⟨_, rfl⟩
        obtain ⟨z, hz⟩ : ∃ z, nthI l' k = z := ⟨_, rfl⟩
        rw [hy] at hck hxy
        rw [hz] at hck' hxy
        have ht : (y == z) = false := by simpa using hxy
        have ht2 : (y != z) = true := by simpa using hxy
        clear hxy hy hz
        go_wp2_with fail
        go_quiet (fail)
        go_wp2_with fail
        go_ret
        exact ⟨ret_bool HS.out.symm, bDrewN HB.out _⟩
    · have hnl : ¬ (k : Int) < (n : Int) := by omega
      obtain rfl : k = n := by omega
      have HS := Lib.hid (show (l == l') = true by
        rw [beq_iff_eq]
        refine List.ext_getElem (by rw [← HN.out, ← HM.out]) fun j hj hj' => ?_
        have := HO.out j (by rw [HN.out]; exact hj)
        rwa [nthI_get hj, nthI_get hj'] at this)
      go_wp2_with fail
      go_ret
      exact ⟨ret_bool HS.out.symm, HB.out⟩
theorem rsame_any (w : World) (M M' : Nat → Prop) (v v' : Value) (l l' : List Int) (h : IsInts w M v l) (h' : IsInts w M' v' l') (hlen : l.length ≤ 140737488355328) :
    Calls Try.prog 60 #[v, v'] w fun e w' => e = .returned (.bool (l == l')) ∧ Below w.heap.size w w' := by
  have H := Lib.hid h
  have H' := Lib.hid h'
  obtain ⟨A, c, rfl, h1, h2, -⟩ := h
  obtain ⟨A', c', rfl, h1', h2', -⟩ := h'
  obtain ⟨n, hn⟩ : ∃ n, n = l.length := ⟨_, rfl⟩
  obtain ⟨m, hm⟩ : ∃ m, m = l'.length := ⟨_, rfl⟩
  have HN := Lib.hid hn
  have HM := Lib.hid hm
  rw [← hn] at hlen
  rw [← hn, ← hm]
  clear hn hm h1 h2 h1' h2'
  go_enter Try.func60, Try.ntmps60
  by_cases hnm : n = m
  case neg =>
    have HQ := Lib.hid (show (l == l') = false by rw [beq_eq_false_iff_ne]; intro e; exact hnm (by rw [HN.out, HM.out, e]))
    have d1 : ((n : Int) == (m : Int)) = false := by rw [beq_eq_false_iff_ne]; omega
    have d2 : ((n : Int) != (m : Int)) = true := by rw [bne_iff_ne]; omega
    clear hnm
    go_wp2_with fail
    go_ret
    exact ⟨ret_bool HQ.out.symm, Below.refl _ _⟩
  subst hnm
  go_wp2_with fail
  go_loopw [5] (fun i wr => ∃ k : Nat, k ≤ n ∧ i = .int .i64 k ∧ Hid (∀ j, j < k → nthI l j = nthI l' j) ∧ Hid (Below w.heap.size w wr)) (fun i _ => n - (intOf i).toNat)
  case atStart => exact ⟨0, Nat.zero_le _, rfl, Lib.hid (fun j hj => absurd hj (by omega)), Lib.hid (Below.refl _ _)⟩
  case round =>
    obtain ⟨k, hk, rfl, HO, HB⟩ := hrel
    by_cases hlt : k < n
    · obtain ⟨b, off, rfl, hbl, hck⟩ := H.out.at_ HB.out (show k < l.length by rw [← HN.out]; exact hlt)
      obtain ⟨b', off', rfl, hbl', hck'⟩ := H'.out.at_ HB.out (show k < l'.length by rw [← HM.out]; exact hlt)
      have hlt' : (k : Int) < (n : Int) := by omega
      have hk0 : (0 : Int) ≤ (k : Int) := by omega
      by_cases hxy : nthI l k = nthI l' k
      · have HS := Lib.hid (show ∀ j, j < k + 1 → nthI l j = nthI l' j from fun j hj => by
          rcases Nat.lt_or_ge j k with h | h
          · exact HO.out j h
          · rw [show j = k by omega]; exact hxy)
        obtain ⟨y, hy⟩ : ∃ y, nthI l k = y := ⟨_, rfl⟩
        rw [← hxy] at hck'
        rw [hy] at hck hck'
        clear hxy hy
        go_wp2_with fail
        go_quiet (fail)
        go_wp2_with fail
        go_roundw
        case rel => exact ⟨k + 1, by omega, by go_num, HS, Lib.hid (bDrewN HB.out _)⟩
        case measure => simp [intOf]; omega
      · have HS := Lib.hid (show (l == l') = false by rw [beq_eq_false_iff_ne]; intro e; exact hxy (by rw [e]))
        obtain ⟨y, hy⟩ : ∃ y, nthI l k = y := ⟨_, rfl⟩
        obtain ⟨z, hz⟩ : ∃ z, nthI l' k = z := ⟨_, rfl⟩
        rw [hy] at hck hxy
        rw [hz] at hck' hxy
        have ht : (y == z) = false := by simpa using hxy
        have ht2 : (y != z) = true := by simpa using hxy
        clear hxy hy hz
        go_wp2_with fail
        go_quiet (fail)
        go_wp2_with fail
        go_ret
        exact ⟨ret_bool HS.out.symm, bDrewN HB.out _⟩
    · have hnl : ¬ (k : Int) < (n : Int) := by omega
      obtain rfl : k = n := by omega
      have HS := Lib.hid (show (l == l') = true by
        rw [beq_iff_eq]
        refine List.ext_getElem (by rw [← HN.out, ← HM.out]) fun j hj hj' => ?_
        have := HO.out j (by rw [HN.out]; exact hj)
        rwa [nthI_get hj, nthI_get hj'] at this)
      go_wp2_with fail
      go_ret
      exact ⟨ret_bool HS.out.symm, HB.out⟩
end Go.Proofs.Ythlnfjbedehjdaa
