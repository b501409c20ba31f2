import Derived.Test.YtbkgkgigcohbpaaS1
namespace Go.Proofs.Ytbkgkgigcohbpaa
open Go.RowKit

theorem index_any (w : World) (M : Nat → Prop) (v : Value) (l : List Int) (h : IsInts w M v l) (x : Int) :
    Calls Try.prog 40 #[v, .int .i64 x] w fun e w' => e = .returned (.int .i64 (idxI l x)) ∧ w = w' := by
  have H := Lib.hid h
  obtain ⟨A, c, rfl, h1, h2, -⟩ := h
  go_enter Try.func40, Try.ntmps40
  go_wp2_with fail
  go_loop [8] (fun i => ∃ k : Nat, k ≤ l.length ∧ i = .int .i64 k ∧ Hid (noneTo (fun i => nthI l i == x) k)) (fun i => l.length - (intOf i).toNat)
  case atStart => exact ⟨0, Nat.zero_le _, rfl, Lib.hid (fun j hj => absurd hj (by omega))⟩
  case round =>
    obtain ⟨k, hk, rfl, HN⟩ := hrel
    by_cases hlt : k < l.length
    · obtain ⟨b, off, rfl, hbl, hck⟩ := H.out.at_ (Below.refl _ _) hlt
      have hlt' : (k : Int) < (l.length : Int) := by omega
      have hk0 : (0 : Int) ≤ (k : Int) := by omega
      obtain ⟨y, hy⟩ : ∃ y, nthI l k = y := ⟨_, rfl⟩
      rw [hy] at hck
      by_cases hxy : y = x
      · have HS := Lib.hid (idxF_some (p := fun i => nthI l i == x) hlt (by rw [hy]; simpa using hxy) HN.out)
        have ht : (x == y) = true := by simp [hxy]
        clear hxy hy
        go_wp2_with fail
        go_ret
        exact ⟨ret_int HS.out.symm, rfl⟩
      · have HS := Lib.hid (noneTo_succ HN.out (show (nthI l k == x) = false by rw [hy]; simpa using hxy))
        have ht : (x == y) = false := by simpa using fun e => hxy e.symm
        clear hxy hy
        go_wp2_with fail
        go_round
        case rel => exact ⟨k + 1, by omega, by go_num, HS⟩
        case measure => simp [intOf]; omega
    · have hnl : ¬ (k : Int) < (l.length : Int) := by omega
      obtain rfl : k = l.length := by omega
      have HS := Lib.hid (idxF_none (p := fun i => nthI l i == x) HN.out)
      go_wp2_with fail
      go_ret
      exact ⟨ret_int HS.out.symm, rfl⟩
theorem contains_any (w : World) (M : Nat → Prop) (v : Value) (l : List Int) (h : IsInts w M v l) (x : Int) :
    Calls Try.prog 32 #[v, .int .i64 x] w fun e w' => e = .returned (.bool (l.contains x)) ∧ w = w' := by
  have C := Lib.hid (index_any w M v l h x)
  obtain ⟨A, c, rfl, h1, h2, -⟩ := h
  rw [← idxI_has]
  generalize idxI l x = z at C ⊢
  go_enter Try.func32, Try.ntmps32
  go_wp2_with fail
  refine C.out.mono ?_
  rintro e w' ⟨rfl, rfl⟩
  go_wp2_with fail
  go_ret
  exact ⟨rfl, rfl⟩
theorem refAt_any26 (w : World) (M : Nat → Prop) (v : Value) (l : List Int) (h : IsInts w M v l) (x : Int) :
    Calls Try.prog 34 #[v, .int .i64 x] w fun e w' => e = .returned (.int .i64 (idxI l x)) ∧ w = w' := by
  have H := Lib.hid h
  obtain ⟨A, c, rfl, h1, h2, -⟩ := h
  go_enter Try.func34, Try.ntmps34
  go_wp2_with fail
  go_loop [5] (fun i => ∃ k : Nat, k ≤ l.length ∧ i = .int .i64 k ∧ Hid (noneTo (fun i => nthI l i == x) k)) (fun i => l.length - (intOf i).toNat)
  case atStart => exact ⟨0, Nat.zero_le _, rfl, Lib.hid (fun j hj => absurd hj (by omega))⟩
  case round =>
    obtain ⟨k, hk, rfl, HN⟩ := hrel
    by_cases hlt : k < l.length
    · obtain ⟨b, off, rfl, hbl, hck⟩ := H.out.at_ (Below.refl _ _) hlt
      have hlt' : (k : Int) < (l.length : Int) := by omega
      have hk0 : (0 : Int) ≤ (k : Int) := by omega
      obtain ⟨y, hy⟩ : ∃ y, nthI l k = y := ⟨_, rfl⟩
      rw [hy] at hck
      by_cases hxy : y = x
      · have HS := Lib.hid (idxF_some (p := fun i => nthI l i == x) hlt (by rw [hy]; simpa using hxy) HN.out)
        have ht : (y == x) = true := by simp [hxy]
        clear hxy hy
        go_wp2_with fail
        go_ret
        exact ⟨ret_int HS.out.symm, rfl⟩
      · have HS := Lib.hid (noneTo_succ HN.out (show (nthI l k == x) = false by rw [hy]; simpa using hxy))
        have ht : (y == x) = false := by simpa using hxy
        clear hxy hy
        go_wp2_with fail
        go_round
        case rel => exact ⟨k + 1, by omega, by go_num, HS⟩
        case measure => simp [intOf]; omega
    · have hnl : ¬ (k : Int) < (l.length : Int) := by omega
      obtain rfl : k = l.length := by omega
      have HS := Lib.hid (idxF_none (p := fun i => nthI l i == x) HN.out)
      go_wp2_with fail
      go_ret
      exact ⟨ret_int HS.out.symm, rfl⟩
theorem isPot_any (w : World) (M : Nat → Prop) (v : Value) (l : List Int) (h : IsInts w M v l) :
    Calls Try.prog 31 #[v] w fun e w' => e = .returned (.bool (potB l)) ∧ w = w' := by
  have H := Lib.hid h
  obtain ⟨A, c, rfl, h1, h2, -⟩ := h
  go_enter Try.func31, Try.ntmps31
  go_wp2_with fail
  go_loop [7] (fun i => ∃ k : Nat, k ≤ l.length ∧ i = .int .i64 k ∧ Hid (potTo l k)) (fun i => l.length - (intOf i).toNat)
  case atStart => exact ⟨0, Nat.zero_le _, rfl, Lib.hid potTo_zero⟩
  case round =>
    obtain ⟨k, hk, rfl, HP⟩ := hrel
    by_cases hlt : k < l.length
    · have CC := fun x => Lib.hid (contains_any w M _ (l.take k) (H.out.take k (by omega)) x)
      obtain ⟨b, off, rfl, hbl, hck⟩ := H.out.at_ (Below.refl _ _) hlt
      have hlt' : (k : Int) < (l.length : Int) := by omega
      have hk0 : (0 : Int) ≤ (k : Int) := by omega
      have hkc : (k : Int) ≤ (c : Int) := by omega
      have HYES := Lib.hid (fun h => potTo_succ HP.out (k := k) h)
      have HNO := Lib.hid (fun h => potB_no (l := l) (k := k) hlt h)
      have HOK : Hid (okAt l k = (decide (0 ≤ nthI l k) && (decide (nthI l k < 192) && !(l.take k).contains (nthI l k)))) := rfl
      generalize nthI l k = y at hck HOK
      by_cases y0 : y < 0
      · have HN := Lib.hid (HNO.out (by rw [HOK.out, decide_eq_false (by omega)]; rfl))
        go_wp2_with fail
        go_ret
        exact ⟨ret_bool HN.out.symm, rfl⟩
      · by_cases y1 : 192 ≤ y
        · have HN := Lib.hid (HNO.out (by rw [HOK.out, decide_eq_false (p := y < 192) (by omega)]; simp))
          go_wp2_with fail
          go_ret
          exact ⟨ret_bool HN.out.symm, rfl⟩
        · have CY := CC y
          obtain ⟨cb, hcb⟩ : ∃ cb, (l.take k).contains y = cb := ⟨_, rfl⟩
          rw [hcb] at CY HOK
          have y0' : ¬ y < 0 := y0
          have y1' : ¬ 192 ≤ y := y1
          clear CC hcb
          cases cb with
          | true =>
            have HN := Lib.hid (HNO.out (by rw [HOK.out]; simp))
            go_wp2_with fail
            refine CY.out.mono ?_
            rintro e w' ⟨rfl, rfl⟩
            go_wp2_with fail
            go_ret
            exact ⟨ret_bool HN.out.symm, rfl⟩
          | false =>
            have HN := Lib.hid (HYES.out (by rw [HOK.out, decide_eq_true (by omega), decide_eq_true (by omega)]; rfl))
            go_wp2_with fail
            refine CY.out.mono ?_
            rintro e w' ⟨rfl, rfl⟩
            go_wp2_with fail
            go_round
            case rel => exact ⟨k + 1, by omega, by go_num, HN⟩
            case measure => simp [intOf]; omega
    · have hnl : ¬ (k : Int) < (l.length : Int) := by omega
      obtain rfl : k = l.length := by omega
      have HA := Lib.hid (potB_all HP.out)
      by_cases g1 : (0 : Int) < (l.length : Int)
      · go_wp2_with fail
        go_ret
        exact ⟨Eq.trans (show _ = Ending.returned (.bool (decide ((l.length : Int) ≤ 16))) from rfl) (ret_bool (by rw [HA.out, decide_eq_true (show 0 < l.length by omega), Bool.true_and]; exact decide_eq_decide.2 (by omega))), rfl⟩
      · go_wp2_with fail
        go_ret
        exact ⟨Eq.trans (show _ = Ending.returned (.bool false) from rfl) (ret_bool (by rw [HA.out, decide_eq_false (show ¬ 0 < l.length by omega), Bool.false_and])), rfl⟩
end Go.Proofs.Ytbkgkgigcohbpaa
