/- Same, has, Few of the reference. -/
import Derived.Test.YtikddknhcfhnbaaA3
namespace Go.Proofs.Ytikddknhcfhnbaa
open Go.RowKit
def Dr (w w' : World) : Prop := ∃ n, w' = w.drewN n
theorem Dr.refl (w : World) : Dr w w := ⟨0, rfl⟩
theorem Dr.drewN {w w' : World} (h : Dr w w') (n : Nat) : Dr w (w'.drewN n) := by obtain ⟨m, rfl⟩ := h; exact ⟨m + n, by rw [World.drewN_drewN]⟩
theorem Dr.below {w w' : World} (h : Dr w w') : Below w.heap.size w w' := by obtain ⟨n, rfl⟩ := h; exact below_drewN (Below.refl _ _) n
theorem eq_of_nthI {a b : List Int} (hl : a.length = b.length) (h : ∀ j, j < a.length → nthI a j = nthI b j) : a = b := by
  refine List.ext_getElem hl fun j h1 h2 => ?_
  have := h j h1
  rwa [nthI_get h1, nthI_get h2] at this
def sameTo (a b : List Int) (k : Nat) : Prop := ∀ j, j < k → nthI a j = nthI b j
theorem same_any (w : World) (M1 M2 : Nat → Prop) (v1 v2 : Value) (a b : List Int) (h1 : IsInts w M1 v1 a) (h2 : IsInts w M2 v2 b) :
    Calls Try.prog 20 #[v1, v2] w fun e w' => e = .returned (.bool (decide (a = b))) ∧ Dr w w' := by
  have H1 := Lib.hid h1
  have H2 := Lib.hid h2
  obtain ⟨A1, c1, rfl, hl1, hm1, -⟩ := h1
  obtain ⟨A2, c2, rfl, hl2, hm2, -⟩ := h2
  by_cases hl : a.length = b.length
  · have HLL := Lib.hid hl
    have hlb : ((a.length : Int) != (b.length : Int)) = false := by simp; omega
    have hlc : (a.length : Int) = (b.length : Int) := by omega
    rw [← hl] at hlb
    generalize hB : b.length = m at *
    clear hlb hlc
    have hma : m = a.length := hl.symm
    subst hma
    have HBL := Lib.hid hB
    clear hl hB
    go_enter Try.func20, Try.ntmps20
    go_wp2_with fail
    go_loopw [5] (fun q wr => ∃ k : Nat, k ≤ a.length ∧ q = .int .i64 (k : Int) ∧ Hid (sameTo a b k) ∧ Hid (Dr w wr)) (fun q _ => a.length - (intOf q).toNat)
    case atStart => exact ⟨0, Nat.zero_le _, rfl, Lib.hid (fun j hj => absurd hj (by omega)), Lib.hid (Dr.refl _)⟩
    case round =>
      obtain ⟨k, hk, rfl, HS, HDR⟩ := hrel
      by_cases hlt : k < a.length
      · obtain ⟨b1, o1, rfl, -, f1⟩ := H1.out.at_ HDR.out.below hlt
        obtain ⟨b2, o2, rfl, -, f2⟩ := H2.out.at_ HDR.out.below (show k < b.length by rw [HBL.out]; exact hlt)
        have hkk : (k : Int) < (a.length : Int) := by omega
        have hk0 : (0 : Int) ≤ (k : Int) := by omega
        obtain ⟨x, hx⟩ : ∃ x, x = nthI a k := ⟨_, rfl⟩
        obtain ⟨y, hy⟩ : ∃ y, y = nthI b k := ⟨_, rfl⟩
        rw [← hx] at f1
        rw [← hy] at f2
        have HX := Lib.hid hx
        have HY := Lib.hid hy
        clear hx hy
        by_cases hxy : x = y
        · have hne : (x != y) = false := by simp [hxy]
          have HE := Lib.hid hxy
          clear hxy
          go_wp2_with fail
          go_quiet (fail)
          go_wp2_with fail
          go_roundw
          case rel => exact ⟨k + 1, by omega, by go_num, Lib.hid (fun j hj => by
            rcases Nat.lt_or_ge j k with h3 | h3
            · exact HS.out j h3
            · rw [show j = k by omega, ← HX.out, ← HY.out]; exact HE.out), HDR.out.drewN _⟩
          case measure => simp [intOf]; omega
        · have hne : (x != y) = true := by simpa using hxy
          have HN : Hid (decide (a = b) = false) := by
            refine decide_eq_false fun e => hxy ?_
            rw [HX.out, HY.out, e]
          go_wp2_with fail
          go_quiet (fail)
          go_wp2_with fail
          go_ret
          exact ⟨ret_bool HN.out.symm, HDR.out.drewN _⟩
      · have hkk : ¬ (k : Int) < (a.length : Int) := by omega
        have HN : Hid (decide (a = b) = true) := decide_eq_true (eq_of_nthI (by rw [HBL.out]) (fun j hj => HS.out j (by omega)))
        go_wp2_with fail
        go_ret
        exact ⟨ret_bool HN.out.symm, HDR.out⟩
  · have hlb : ((a.length : Int) != (b.length : Int)) = true := by simp; omega
    have hlc : ¬ (a.length : Int) = (b.length : Int) := by omega
    have HN : Hid (decide (a = b) = false) := decide_eq_false fun e => hl (by rw [e])
    clear hl
    go_enter Try.func20, Try.ntmps20
    go_wp2_with fail
    go_ret
    exact ⟨ret_bool HN.out.symm, Dr.refl _⟩
theorem has_all {l : List Int} {x : Int} (h : ∀ j, j < l.length → ¬ nthI l j = x) : l.contains x = false := by
  rw [← Bool.not_eq_true, List.contains_iff_mem]
  intro hm
  obtain ⟨j, hj, e⟩ := List.mem_iff_getElem.1 hm
  exact h j hj (by rw [nthI_get hj]; exact e)
theorem has_at {l : List Int} {x : Int} {j : Nat} (hj : j < l.length) (h : nthI l j = x) : l.contains x = true := by
  rw [List.contains_iff_mem]
  rw [nthI_get hj] at h
  exact List.mem_iff_getElem.2 ⟨j, hj, h⟩
def hasNot (l : List Int) (x : Int) (k : Nat) : Prop := ∀ j, j < k → ¬ nthI l j = x
theorem has_any (w : World) (M : Nat → Prop) (v : Value) (a : List Int) (h : IsInts w M v a) (x : Int) :
    Calls Try.prog 25 #[v, .int .i64 x] w fun e w' => e = .returned (.bool (a.contains x)) ∧ Dr w w' := by
  have H := Lib.hid h
  obtain ⟨A, c, rfl, hl1, hm1, -⟩ := h
  have HY := Lib.hid (fun j hj hh => @has_at a x j hj hh)
  have HN := Lib.hid (@has_all a x)
  obtain ⟨z, hz⟩ : ∃ z, z = a.contains x := ⟨_, rfl⟩
  rw [← hz] at HY HN ⊢
  clear hz
  go_enter Try.func25, Try.ntmps25
  go_wp2_with fail
  go_loopw [5] (fun q wr => ∃ k : Nat, k ≤ a.length ∧ q = .int .i64 (k : Int) ∧ Hid (hasNot a x k) ∧ Hid (Dr w wr)) (fun q _ => a.length - (intOf q).toNat)
  case atStart => exact ⟨0, Nat.zero_le _, rfl, Lib.hid (fun j hj => absurd hj (by omega)), Lib.hid (Dr.refl _)⟩
  case round =>
    obtain ⟨k, hk, rfl, HS, HDR⟩ := hrel
    by_cases hlt : k < a.length
    · obtain ⟨b1, o1, rfl, -, f1⟩ := H.out.at_ HDR.out.below hlt
      have hkk : (k : Int) < (a.length : Int) := by omega
      have hk0 : (0 : Int) ≤ (k : Int) := by omega
      have HYk := Lib.hid (HY.out k hlt)
      obtain ⟨y, hy⟩ : ∃ y, y = nthI a k := ⟨_, rfl⟩
      rw [← hy] at f1 HYk
      have HX := Lib.hid hy
      clear hy
      by_cases hxy : y = x
      · have hne : (y == x) = true := by simpa using hxy
        have HZ := Lib.hid (HYk.out hxy)
        clear hxy HYk
        go_wp2_with fail
        go_ret
        exact ⟨ret_bool HZ.out.symm, HDR.out⟩
      · have hne : (y == x) = false := by simpa using hxy
        have HXY := Lib.hid hxy
        clear HYk
        go_wp2_with fail
        go_roundw
        case rel => exact ⟨k + 1, by omega, by go_num, Lib.hid (fun j hj => by
          rcases Nat.lt_or_ge j k with h3 | h3
          · exact HS.out j h3
          · rw [show j = k by omega, ← HX.out]; exact HXY.out), Lib.hid HDR.out⟩
        case measure => simp [intOf]; omega
    · have hkk : ¬ (k : Int) < (a.length : Int) := by omega
      have HZ := Lib.hid (HN.out (fun j hj => HS.out j (by omega)))
      go_wp2_with fail
      go_ret
      exact ⟨ret_bool HZ.out.symm, HDR.out⟩
def BoolW (z : Bool) (w : World) (e : Ending) (w' : World) : Prop := e = .returned (.bool z) ∧ Below w.heap.size w w'
def fewN (n : NetD) : Bool := decide (n.vs ≤ 9) && decide (n.arcs.length ≤ 24)
theorem few_any (w : World) (M : Nat → Prop) (v : Value) (n : NetD) (h : IsNet w M v n) : Calls Try.prog 11 #[v] w (BoolW (fewN n) w) := by
  obtain ⟨v2, rfl, ⟨A, c, rfl, -⟩⟩ := h
  have HF : Hid (fewN n = (decide (n.vs ≤ 9) && decide (n.arcs.length ≤ 24))) := rfl
  generalize n.vs = V at *
  generalize n.arcs.length = L at *
  by_cases h1 : V ≤ 9
  · by_cases h2 : L ≤ 24
    · have h2' : (L : Int) ≤ 24 := by omega
      have HZ : Hid (fewN n = true) := Lib.hid (by rw [HF.out, decide_eq_true h1, decide_eq_true h2]; rfl)
      go_enter Try.func11, Try.ntmps11
      go_wp2_with fail
      go_ret
      exact ⟨ret_bool HZ.out.symm, (Below.refl _ _).alloc (Nat.le_refl _) _⟩
    · have h2' : ¬ (L : Int) ≤ 24 := by omega
      have HZ : Hid (fewN n = false) := Lib.hid (by rw [HF.out, decide_eq_false h2, Bool.and_false])
      go_enter Try.func11, Try.ntmps11
      go_wp2_with fail
      go_ret
      exact ⟨ret_bool HZ.out.symm, (Below.refl _ _).alloc (Nat.le_refl _) _⟩
  · have HZ : Hid (fewN n = false) := Lib.hid (by rw [HF.out, decide_eq_false h1, Bool.false_and])
    go_enter Try.func11, Try.ntmps11
    go_wp2_with fail
    go_ret
    exact ⟨ret_bool HZ.out.symm, (Below.refl _ _).alloc (Nat.le_refl _) _⟩
end Go.Proofs.Ytikddknhcfhnbaa
