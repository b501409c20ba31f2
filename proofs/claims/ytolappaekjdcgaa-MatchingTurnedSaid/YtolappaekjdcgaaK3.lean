/- Plain mathematics of matchings: turned around, a matching has the same size; one edge less. No program here. -/
import Derived.Test.YtolappaekjdcgaaK2
namespace Go.Proofs.Ytolappaekjdcgaa
open Sm
theorem size_pairs {L R : Nat} {m : Nat → Option Nat} (h : ∀ v r, v < L → m v = some r → r < R) : sizeM m L = sumB (fun v => sumB (fun r => if m v = some r then 1 else 0) R) L := by
  refine sumB_congr fun v hv => ?_
  cases e : m v with
  | none => rw [if_neg (by simp), sumB_nil fun r _ => if_neg (by simp)]
  | some r =>
    rw [if_pos (by rfl)]
    refine ((sumB_congr fun q _ => ?_).trans (sumB_one (h v r hv e))).symm
    by_cases k : r = q
    · rw [if_pos k, k, if_pos rfl]
    · rw [if_neg k, if_neg (fun hh => k (Option.some.inj hh))]
/-- the same matching seen from the right -/
theorem size_turned {L R : Nat} {m p : Nat → Option Nat} (hm : ∀ v r, v < L → m v = some r → r < R) (hp : ∀ r v, r < R → p r = some v → v < L) (hi : ∀ v r, v < L → r < R → (m v = some r ↔ p r = some v)) : sizeM p R = sizeM m L := by
  rw [size_pairs hm, size_pairs hp, sumB_swap]
  refine sumB_congr fun v hv => sumB_congr fun r hr => ?_
  by_cases k : m v = some r
  · rw [if_pos k, if_pos ((hi v r hv hr).1 k)]
  · rw [if_neg k, if_neg (fun hh => k ((hi v r hv hr).2 hh))]
theorem Mat.mono {E E' : Nat → Nat → Bool} {L R : Nat} {m : Nat → Option Nat} (h : Mat E L R m) (hE : ∀ v r, v < L → r < R → E v r = true → E' v r = true) : Mat E' L R m :=
  ⟨fun v r hv e => ⟨hE v r hv (h.edge v r hv e).2 (h.edge v r hv e).1, (h.edge v r hv e).2⟩, h.inj⟩
/-- without the edge (a, b): the matching without a, if it is matched to b -/
theorem Mat.drop {E E' : Nat → Nat → Bool} {L R a b : Nat} {m : Nat → Option Nat} (h : Mat E L R m) (hE : ∀ v r, v < L → r < R → E v r = true → (v = a ∧ r = b) ∨ E' v r = true) : ∃ m', Mat E' L R m' ∧ sizeM m L ≤ sizeM m' L + 1 := by
  refine ⟨fun v => if v = a ∧ m v = some b then none else m v, ⟨fun v r hv e => ?_, fun u v r hu hv e1 e2 => ?_⟩, ?_⟩
  · split at e
    · cases e
    · next hn =>
      obtain ⟨k1, k2⟩ := h.edge v r hv e
      rcases hE v r hv k2 k1 with ⟨rfl, rfl⟩ | k3
      · exact absurd ⟨rfl, e⟩ hn
      · exact ⟨k3, k2⟩
  · split at e1
    · cases e1
    · split at e2
      · cases e2
      · exact h.inj u v r hu hv e1 e2
  · have h1 : sizeM m L ≤ sumB (fun v => (if (if v = a ∧ m v = some b then none else m v).isSome then 1 else 0) + (if a = v then 1 else 0)) L := by
      refine sumB_le fun v _ => ?_
      by_cases k : v = a ∧ m v = some b
      · rw [if_pos k, if_pos k.1.symm]
        split <;> omega
      · rw [if_neg k]; omega
    rw [sumB_add] at h1
    have h2 : sumB (fun v => if a = v then 1 else 0) L ≤ 1 := by
      rcases Nat.lt_or_ge a L with k | k
      · rw [sumB_one k]; exact Nat.le_refl _
      · rw [sumB_nil fun v hv => if_neg (by omega)]; omega
    unfold sizeM at h1 ⊢
    dsimp only at h1 ⊢
    omega
end Go.Proofs.Ytolappaekjdcgaa
