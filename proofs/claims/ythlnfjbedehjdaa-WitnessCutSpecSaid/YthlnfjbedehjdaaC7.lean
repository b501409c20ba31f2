/- All completions, as the program counts them. No program here. -/
import Derived.Test.YthlnfjbedehjdaaC2
namespace Go.Proofs.Ythlnfjbedehjdaa
/-- the next completion -/
def incO : List Int → Option (List Int)
  | [] => none
  | x :: r => if x = 3 then (incO r).map (1 :: ·) else some ((x + 1) :: r)
def threeO (r : List Int) : List (List Int) := [1 :: r, 2 :: r, 3 :: r]
/-- all completions of n games -/
def allO : Nat → List (List Int)
  | 0 => [[]]
  | n + 1 => (allO n).flatMap threeO
/-- each is followed by the next, and the last has none -/
def RunO : List (List Int) → Prop
  | [] => False
  | [a] => incO a = none
  | a :: b :: l => incO a = some b ∧ RunO (b :: l)
theorem runO_three : ∀ (l : List (List Int)), RunO l → RunO (l.flatMap threeO)
  | [], h => h.elim
  | [a], h => by
    have h1 : incO a = none := h
    show RunO [1 :: a, 2 :: a, 3 :: a]
    refine ⟨rfl, rfl, ?_⟩
    show incO (3 :: a) = none
    simp [incO, h1]
  | a :: b :: l, h => by
    have ih := runO_three (b :: l) h.2
    have e : (a :: b :: l).flatMap threeO = (1 :: a) :: (2 :: a) :: (3 :: a) :: (1 :: b) :: (2 :: b) :: (3 :: b) :: l.flatMap threeO := rfl
    have e2 : (b :: l).flatMap threeO = (1 :: b) :: (2 :: b) :: (3 :: b) :: l.flatMap threeO := rfl
    rw [e2] at ih
    rw [e]
    refine ⟨rfl, rfl, ?_, ih⟩
    simp [incO, h.1]
theorem runO_all : ∀ n, RunO (allO n)
  | 0 => rfl
  | n + 1 => runO_three _ (runO_all n)
theorem runO_at : ∀ (A : List (List Int)) (c : List Int) (B : List (List Int)), RunO (A ++ c :: B) → (incO c = none ∧ B = []) ∨ ∃ b B', B = b :: B' ∧ incO c = some b
  | [], _, [], h => .inl ⟨h, rfl⟩
  | [], _, b :: B, h => .inr ⟨b, B, rfl, h.1⟩
  | [_], c, B, h => runO_at [] c B h.2
  | _ :: a' :: A, c, B, h => runO_at (a' :: A) c B h.2
theorem allO_head (n : Nat) : ∃ B, allO n = List.replicate n 1 :: B := by
  induction n with
  | zero => exact ⟨[], rfl⟩
  | succ n ih =>
    obtain ⟨B, hB⟩ := ih
    refine ⟨(2 :: List.replicate n 1) :: (3 :: List.replicate n 1) :: B.flatMap threeO, ?_⟩
    show (allO n).flatMap threeO = _
    rw [hB]; rfl
theorem allO_mem (n : Nat) : ∀ s, s ∈ allO n ↔ s.length = n ∧ ∀ x ∈ s, 1 ≤ x ∧ x ≤ 3 := by
  induction n with
  | zero =>
    intro s
    show s ∈ [[]] ↔ _
    rw [List.mem_singleton]
    constructor
    · rintro rfl; exact ⟨rfl, fun x hx => by cases hx⟩
    · rintro ⟨h, -⟩; exact List.eq_nil_of_length_eq_zero h
  | succ n ih =>
    intro s
    show s ∈ (allO n).flatMap threeO ↔ _
    rw [List.mem_flatMap]
    constructor
    · rintro ⟨r, hr, hs⟩
      obtain ⟨h1, h2⟩ := (ih r).1 hr
      unfold threeO at hs
      simp only [List.mem_cons, List.not_mem_nil, or_false] at hs
      rcases hs with rfl | rfl | rfl
      all_goals
        refine ⟨by rw [List.length_cons, h1], fun x hx => ?_⟩
        rcases List.mem_cons.1 hx with rfl | hx
        · omega
        · exact h2 x hx
    · rintro ⟨h1, h2⟩
      cases s with
      | nil => cases h1
      | cons x r =>
        refine ⟨r, (ih r).2 ⟨by rw [List.length_cons] at h1; omega, fun y hy => h2 y (List.mem_cons_of_mem _ hy)⟩, ?_⟩
        have := h2 x (by simp)
        unfold threeO
        simp only [List.mem_cons, List.not_mem_nil, or_false]
        rcases show x = 1 ∨ x = 2 ∨ x = 3 by omega with rfl | rfl | rfl
        · exact .inl rfl
        · exact .inr (.inl rfl)
        · exact .inr (.inr rfl)
/-- the carry: the first i digits were 3 -/
theorem incO_drop {c : List Int} : ∀ (i : Nat), i ≤ c.length → (∀ j, j < i → nthI c j = 3) → incO c = (incO (c.drop i)).map (List.replicate i 1 ++ ·) := by
  intro i
  induction i with
  | zero => intro _ _; simp
  | succ i ih =>
    intro hi h
    rw [ih (by omega) (fun j hj => h j (by omega)), List.drop_eq_getElem_cons (show i < c.length by omega)]
    have h3 := h i (by omega)
    rw [nthI_get (by omega)] at h3
    rw [h3]
    simp only [incO, if_true, Option.map_map]
    congr 1
    funext s
    simp [List.replicate_succ']
theorem incO_some {c : List Int} {i : Nat} (hi : i < c.length) (h : ∀ j, j < i → nthI c j = 3) (hn : nthI c i ≠ 3) : incO c = some (List.replicate i 1 ++ (nthI c i + 1) :: c.drop (i + 1)) := by
  rw [incO_drop i (by omega) h, List.drop_eq_getElem_cons hi, ← nthI_get hi]
  simp [incO, hn]
theorem incO_none {c : List Int} (h : ∀ j, j < c.length → nthI c j = 3) : incO c = none := by
  rw [incO_drop c.length (Nat.le_refl _) h, List.drop_length]; rfl
end Go.Proofs.Ythlnfjbedehjdaa
