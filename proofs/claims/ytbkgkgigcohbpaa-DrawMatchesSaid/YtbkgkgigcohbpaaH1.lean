import Derived.Test.YtbkgkgigcohbpaaD9
namespace Go.Proofs.Ytbkgkgigcohbpaa
open Go.RowKit
theorem eq_of_nthI {a b : List Int} (hl : a.length = b.length) (h : ∀ j, j < a.length → nthI a j = nthI b j) : a = b := by
  refine List.ext_getElem hl fun j h1 h2 => ?_
  have := h j h1
  rwa [nthI_get h1, nthI_get h2] at this
def sameTo (a b : List Int) (k : Nat) : Prop := ∀ j, j < k → nthI a j = nthI b j
theorem same_any (w : World) (M1 M2 : Nat → Prop) (v1 v2 : Value) (a b : List Int) (h1 : IsInts w M1 v1 a) (h2 : IsInts w M2 v2 b) :
    Calls Try.prog 20 #[v1, v2] w fun e w' => e = .returned (.bool (decide (a = b))) ∧ Dr w w' := by
  have H1 := Lib.hid h1
  have H2 := Lib.hid h2
  obtain ⟨A1, c1, rfl, hl1, hm1, -⟩ := h1
  obtain ⟨A2, c2, rfl, hl2, hm2, -⟩ := h2
  by_cases hl : a.length = b.length
  · have HLL := Lib.hid hl
    have hlb : ((a.length : Int) != (b.length : Int)) = false := by simp; omega
    have hlc : (a.length : Int) = (b.length : Int) := by omega
    rw [← hl] at hlb
    generalize hB : b.length = m at *
    clear hlb hlc
    have hma : m = a.length := hl.symm
    subst hma
    have HBL := Lib.hid hB
    clear hl hB
    go_enter Try.func20, Try.ntmps20
    go_wp2_with fail
    go_loopw [5] (fun q wr => ∃ k : Nat, k ≤ a.length ∧ q = .int .i64 (k : Int) ∧ Hid (sameTo a b k) ∧ Hid (Dr w wr)) (fun q _ => a.length - (intOf q).toNat)
    case atStart => exact ⟨0, Nat.zero_le _, rfl, Lib.hid (fun j hj => absurd hj (by omega)), Lib.hid (Dr.refl _)⟩
    case round =>
      obtain ⟨k, hk, rfl, HS, HDR⟩ := hrel
      by_cases hlt : k < a.length
      · obtain ⟨b1, o1, rfl, -, f1⟩ := H1.out.at_ HDR.out.below hlt
        obtain ⟨b2, o2, rfl, -, f2⟩ := H2.out.at_ HDR.out.below (show k < b.length by rw [HBL.out]; exact hlt)
        have hkk : (k : Int) < (a.length : Int) := by omega
        have hk0 : (0 : Int) ≤ (k : Int) := by omega
        obtain ⟨x, hx⟩ : ∃ x, x = nthI a k := ⟨_, rfl⟩
        obtain ⟨y, hy⟩ : ∃ y, y = nthI b k := ⟨_, rfl⟩
        rw [← hx] at f1
        rw [← hy] at f2
        have HX := Lib.hid hx
        have HY := Lib.hid hy
        clear hx hy
        by_cases hxy : x = y
        · have hne : (x != y) = false := by simp [hxy]
          have HE := Lib.hid hxy
          clear hxy
          go_wp2_with fail
          go_quiet (fail)
          go_wp2_with fail
          go_roundw
          case rel => exact ⟨k + 1, by omega, by go_num, Lib.hid (fun j hj => by
            rcases Nat.lt_or_ge j k with h3 | h3
            · exact HS.out j h3
            · rw [show j = k by omega, ← HX.out, ← HY.out]; exact HE.out), HDR.out.drewN _⟩
          case measure => simp [intOf]; omega
        · have hne : (x != y) = true := by simpa using hxy
          have HN : Hid (decide (a = b) = false) := by
            refine decide_eq_false fun e => hxy ?_
            rw [HX.out, HY.out, e]
          go_wp2_with fail
          go_quiet (fail)
          go_wp2_with fail
          go_ret
          exact ⟨ret_bool HN.out.symm, HDR.out.drewN _⟩
      · have hkk : ¬ (k : Int) < (a.length : Int) := by omega
        have HN : Hid (decide (a = b) = true) := decide_eq_true (eq_of_nthI (by rw [HBL.out]) (fun j hj => HS.out j (by omega)))
        go_wp2_with fail
        go_ret
        exact ⟨ret_bool HN.out.symm, HDR.out⟩
  · have hlb : ((a.length : Int) != (b.length : Int)) = true := by simp; omega
    have hlc : ¬ (a.length : Int) = (b.length : Int) := by omega
    have HN : Hid (decide (a = b) = false) := decide_eq_false fun e => hl (by rw [e])
    clear hl
    go_enter Try.func20, Try.ntmps20
    go_wp2_with fail
    go_ret
    exact ⟨ret_bool HN.out.symm, Dr.refl _⟩
def fewD (d : DrawD) : Bool := decide (d.first.length ≤ 5) && (decide (d.second.length ≤ 6) && decide (d.forb.length ≤ 40))
def largeD (d : DrawD) : Bool := decide (12 < d.first.length) || (decide (12 < d.second.length) || decide (80 < d.forb.length))
theorem few_any (w : World) (M : Nat → Prop) (v : Value) (d : DrawD) (h : IsDraw w M v d) :
    Calls Try.prog 10 #[v] w fun e w' => e = .returned (.bool (fewD d)) ∧ Below w.heap.size w w' := by
  obtain ⟨v1, v2, v3, rfl, ⟨A1, c1, rfl, -⟩, ⟨A2, c2, rfl, -⟩, ⟨A3, c3, rfl, -⟩⟩ := h
  have HF : Hid (fewD d = (decide (d.first.length ≤ 5) && (decide (d.second.length ≤ 6) && decide (d.forb.length ≤ 40)))) := rfl
  generalize d.first.length = n1 at *
  generalize d.second.length = n2 at *
  generalize d.forb.length = n3 at *
  by_cases h1 : n1 ≤ 5
  · have k1 : (n1 : Int) ≤ 5 := by omega
    by_cases h2 : n2 ≤ 6
    · have k2 : (n2 : Int) ≤ 6 := by omega
      by_cases h3 : n3 ≤ 40
      · have k3 : (n3 : Int) ≤ 40 := by omega
        rw [decide_eq_true h1, decide_eq_true h2, decide_eq_true h3] at HF
        clear h1 h2 h3
        go_enter Try.func10, Try.ntmps10
        go_wp2_with fail
        go_ret
        exact ⟨ret_bool HF.out.symm, (Below.refl _ _).alloc (Nat.le_refl _) _⟩
      · have k3 : ¬ (n3 : Int) ≤ 40 := by omega
        rw [decide_eq_true h1, decide_eq_true h2, decide_eq_false h3] at HF
        clear h1 h2 h3
        go_enter Try.func10, Try.ntmps10
        go_wp2_with fail
        go_ret
        exact ⟨ret_bool HF.out.symm, (Below.refl _ _).alloc (Nat.le_refl _) _⟩
    · have k2 : ¬ (n2 : Int) ≤ 6 := by omega
      rw [decide_eq_true h1, decide_eq_false h2] at HF
      clear h1 h2
      go_enter Try.func10, Try.ntmps10
      go_wp2_with fail
      go_ret
      exact ⟨ret_bool HF.out.symm, (Below.refl _ _).alloc (Nat.le_refl _) _⟩
  · have k1 : ¬ (n1 : Int) ≤ 5 := by omega
    rw [decide_eq_false h1] at HF
    clear h1
    go_enter Try.func10, Try.ntmps10
    go_wp2_with fail
    go_ret
    exact ⟨ret_bool HF.out.symm, (Below.refl _ _).alloc (Nat.le_refl _) _⟩
theorem large_any (w : World) (M : Nat → Prop) (v : Value) (d : DrawD) (h : IsDraw w M v d) :
    Calls Try.prog 23 #[v] w fun e w' => e = .returned (.bool (largeD d)) ∧ Below w.heap.size w w' := by
  obtain ⟨v1, v2, v3, rfl, ⟨A1, c1, rfl, -⟩, ⟨A2, c2, rfl, -⟩, ⟨A3, c3, rfl, -⟩⟩ := h
  have HF : Hid (largeD d = (decide (12 < d.first.length) || (decide (12 < d.second.length) || decide (80 < d.forb.length)))) := rfl
  generalize d.first.length = n1 at *
  generalize d.second.length = n2 at *
  generalize d.forb.length = n3 at *
  by_cases h1 : 12 < n1
  · have k1 : (12 : Int) < (n1 : Int) := by omega
    rw [decide_eq_true h1] at HF
    clear h1
    go_enter Try.func23, Try.ntmps23
    go_wp2_with fail
    go_ret
    exact ⟨ret_bool HF.out.symm, (Below.refl _ _).alloc (Nat.le_refl _) _⟩
  · have k1 : ¬ (12 : Int) < (n1 : Int) := by omega
    by_cases h2 : 12 < n2
    · have k2 : (12 : Int) < (n2 : Int) := by omega
      rw [decide_eq_false h1, decide_eq_true h2] at HF
      clear h1 h2
      go_enter Try.func23, Try.ntmps23
      go_wp2_with fail
      go_ret
      exact ⟨ret_bool HF.out.symm, (Below.refl _ _).alloc (Nat.le_refl _) _⟩
    · have k2 : ¬ (12 : Int) < (n2 : Int) := by omega
      by_cases h3 : 80 < n3
      · have k3 : (80 : Int) < (n3 : Int) := by omega
        rw [decide_eq_false h1, decide_eq_false h2, decide_eq_true h3] at HF
        clear h1 h2 h3
        go_enter Try.func23, Try.ntmps23
        go_wp2_with fail
        go_ret
        exact ⟨ret_bool HF.out.symm, (Below.refl _ _).alloc (Nat.le_refl _) _⟩
      · have k3 : ¬ (80 : Int) < (n3 : Int) := by omega
        rw [decide_eq_false h1, decide_eq_false h2, decide_eq_false h3] at HF
        clear h1 h2 h3
        go_enter Try.func23, Try.ntmps23
        go_wp2_with fail
        go_ret
        exact ⟨ret_bool HF.out.symm, (Below.refl _ _).alloc (Nat.le_refl _) _⟩
end Go.Proofs.Ytbkgkgigcohbpaa
