import Derived.Test.YthlnfjbedehjdaaInts
namespace Go.Proofs.Ythlnfjbedehjdaa
open Go.RowKit

def idxF (p : Nat → Bool) (n : Nat) : Int := match (List.range n).find? p with | some i => i | none => -1
theorem idxF_none {p : Nat → Bool} {n : Nat} (h : ∀ j, j < n → p j = false) : idxF p n = -1 := by
  have : (List.range n).find? p = none := by rw [List.find?_eq_none]; intro x hx; simp [h x (List.mem_range.1 hx)]
  simp [idxF, this]
theorem idxF_some {p : Nat → Bool} {n k : Nat} (hk : k < n) (hp : p k = true) (h : ∀ j, j < k → p j = false) : idxF p n = k := by
  have : (List.range n).find? p = some k := by
    rw [List.find?_range_eq_some]; exact ⟨hp, by simpa using hk, fun j hj => by simp [h j hj]⟩
  simp [idxF, this]
theorem idxF_any (p : Nat → Bool) (n : Nat) : decide (0 ≤ idxF p n) = (List.range n).any p := by
  unfold idxF
  cases h : (List.range n).find? p with
  | none => 
    rw [List.find?_eq_none] at h
    have : (List.range n).any p = false := by rw [List.any_eq_false]; exact h
    simp [this]
  | some i =>
    have := List.find?_some h
    have hm := List.mem_of_find?_eq_some h
    have : (List.range n).any p = true := by rw [List.any_eq_true]; exact ⟨i, hm, this⟩
    simp [this]
def noneTo (p : Nat → Bool) (k : Nat) : Prop := ∀ j, j < k → p j = false
theorem noneTo_succ {p : Nat → Bool} {k : Nat} (h : noneTo p k) (hp : p k = false) : noneTo p (k + 1) := fun j hj => by
  rcases Nat.lt_or_ge j k with h1 | h1
  · exact h j h1
  · obtain rfl : j = k := by omega
    exact hp
/-- the place of a number in a list, -1 where it is not -/
def idxI (l : List Int) (x : Int) : Int := idxF (fun i => nthI l i == x) l.length
theorem range_anyI (l : List Int) (p : Int → Bool) : (List.range l.length).any (fun i => p (nthI l i)) = l.any p := by
  rw [Bool.eq_iff_iff, List.any_eq_true, List.any_eq_true]
  constructor
  · rintro ⟨i, hi, h⟩
    rw [List.mem_range] at hi
    exact ⟨nthI l i, by rw [nthI_get hi]; exact List.getElem_mem hi, h⟩
  · rintro ⟨x, hx, h⟩
    obtain ⟨i, hi, rfl⟩ := List.getElem_of_mem hx
    exact ⟨i, List.mem_range.2 hi, by rw [nthI_get hi]; exact h⟩
theorem idxI_has (l : List Int) (x : Int) : decide (0 ≤ idxI l x) = l.contains x := by
  unfold idxI
  rw [idxF_any, range_anyI l (fun y => y == x), List.contains_eq_any_beq, Bool.eq_iff_iff, List.any_eq_true, List.any_eq_true]
  constructor
  · rintro ⟨y, hy, h⟩; exact ⟨y, hy, by simp at h ⊢; exact h.symm⟩
  · rintro ⟨y, hy, h⟩; exact ⟨y, hy, by simp at h ⊢; exact h.symm⟩
theorem idxF_lo (p : Nat → Bool) (n : Nat) : -1 ≤ idxF p n := by
  unfold idxF
  split
  · omega
  · omega
end Go.Proofs.Ythlnfjbedehjdaa
