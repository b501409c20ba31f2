/- Plain mathematics of matchings: no matching is greater than a cover. No program here. -/
import Derived.Test.YtolappaekjdcgaaSum
namespace Go.Proofs.Ytolappaekjdcgaa
open Sm
/-- a matching: for each left vertex its right one -/
structure Mat (E : Nat → Nat → Bool) (L R : Nat) (m : Nat → Option Nat) : Prop where
  edge : ∀ v r, v < L → m v = some r → E v r = true ∧ r < R
  inj : ∀ u v r, u < L → v < L → m u = some r → m v = some r → u = v
def sizeM (m : Nat → Option Nat) (L : Nat) : Nat := sumB (fun v => if (m v).isSome then 1 else 0) L
def sizeB (A : Nat → Bool) (L : Nat) : Nat := sumB (fun v => if A v then 1 else 0) L
/-- a cover: each edge has an end in it -/
def Cov (E : Nat → Nat → Bool) (L R : Nat) (A B : Nat → Bool) : Prop := ∀ v r, v < L → r < R → E v r = true → A v = true ∨ B r = true
theorem cover_bound {E : Nat → Nat → Bool} {L R : Nat} {m : Nat → Option Nat} {A B : Nat → Bool} (hm : Mat E L R m) (hc : Cov E L R A B) : sizeM m L ≤ sizeB A L + sizeB B R := by
  have h1 : sizeM m L ≤ sumB (fun v => (if A v then 1 else 0) + sumB (fun r => if m v = some r ∧ B r = true then 1 else 0) R) L := by
    refine sumB_le fun v hv => ?_
    cases e : m v with
    | none => simp
    | some r =>
      obtain ⟨he, hr⟩ := hm.edge v r hv e
      rcases hc v r hv hr he with ha | hb
      · rw [ha]; simp
      · have := sumB_term (f := fun q => if some r = some q ∧ B q = true then 1 else 0) hr
        simp only [hb, and_self, if_pos] at this
        simp only [Option.isSome_some, if_pos]
        omega
  have h2 : sumB (fun v => sumB (fun r => if m v = some r ∧ B r = true then 1 else 0) R) L ≤ sizeB B R := by
    rw [sumB_swap]
    refine sumB_le fun r _ => ?_
    cases hb : B r
    · rw [sumB_nil fun v _ => if_neg (by simp)]
      exact Nat.zero_le _
    · rw [if_pos rfl]
      refine sumB_uniq (fun v _ => by split <;> omega) fun u v hu hv e1 e2 => ?_
      have k1 : m u = some r := by
        by_cases e : m u = some r
        · exact e
        · rw [if_neg (fun hh => e hh.1)] at e1; cases e1
      have k2 : m v = some r := by
        by_cases e : m v = some r
        · exact e
        · rw [if_neg (fun hh => e hh.1)] at e2; cases e2
      exact hm.inj u v r hu hv k1 k2
  have h3 := sumB_add (fun v => if A v then 1 else 0) (fun v => sumB (fun r => if m v = some r ∧ B r = true then 1 else 0) R) L
  unfold sizeB at h2 ⊢
  omega
end Go.Proofs.Ytolappaekjdcgaa
