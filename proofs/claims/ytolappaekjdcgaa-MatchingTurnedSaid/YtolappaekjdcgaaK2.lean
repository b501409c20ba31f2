/- Plain mathematics of matchings: where all that unmatched vertices reach is matched, the cover is as great as the matching. No program here. -/
import Derived.Test.YtolappaekjdcgaaK1
namespace Go.Proofs.Ytolappaekjdcgaa
open Sm
/-- what alternating paths reach: left vertices Lr, right ones Sr -/
structure Rch (E : Nat → Nat → Bool) (L R : Nat) (m p : Nat → Option Nat) (Lr Sr : Nat → Bool) : Prop where
  inv : ∀ v r, v < L → r < R → (m v = some r ↔ p r = some v)
  left : ∀ v r, r < R → p r = some v → v < L
  free : ∀ v, v < L → m v = none → Lr v = true
  step : ∀ v r, v < L → r < R → Lr v = true → E v r = true → Sr r = true
  back : ∀ r, r < R → Sr r = true → ∃ v, p r = some v ∧ Lr v = true
theorem Rch.cov {E : Nat → Nat → Bool} {L R : Nat} {m p : Nat → Option Nat} {Lr Sr : Nat → Bool} (h : Rch E L R m p Lr Sr) : Cov E L R (fun v => !Lr v) Sr := fun v r hv hr he => by
  cases hl : Lr v
  · exact .inl (by show (!Lr v) = true; rw [hl]; rfl)
  · exact .inr (h.step v r hv hr hl he)
theorem Rch.size {E : Nat → Nat → Bool} {L R : Nat} {m p : Nat → Option Nat} {Lr Sr : Nat → Bool} (h : Rch E L R m p Lr Sr) (hm : Mat E L R m) : sizeM m L = sizeB (fun v => !Lr v) L + sizeB Sr R := by
  have e1 : sizeM m L = sumB (fun v => (if (!Lr v) = true then 1 else 0) + sumB (fun r => if m v = some r ∧ Sr r = true then 1 else 0) R) L := by
    refine sumB_congr fun v hv => ?_
    cases hl : Lr v
    · have hs : (m v).isSome = true := by
        cases e : m v with
        | none => rw [h.free v hv e] at hl; cases hl
        | some r => rfl
      rw [if_pos hs, if_pos (by rfl), sumB_nil fun r hr => if_neg ?_]
      rintro ⟨k1, k2⟩
      obtain ⟨v', k3, k4⟩ := h.back r hr k2
      rw [(h.inv v r hv hr).1 k1] at k3
      cases k3
      rw [hl] at k4
      cases k4
    · rw [if_neg (show ¬ (!true) = true by decide), Nat.zero_add]
      cases e : m v with
      | none => rw [if_neg (by simp), sumB_nil fun r _ => if_neg (by simp)]
      | some r =>
        obtain ⟨he, hr⟩ := hm.edge v r hv e
        have hs := h.step v r hv hr hl he
        rw [if_pos (by rfl)]
        refine ((sumB_congr fun q _ => ?_).trans (sumB_one hr)).symm
        by_cases k : r = q
        · rw [if_pos k, ← k, if_pos ⟨rfl, hs⟩]
        · rw [if_neg k, if_neg (fun hh => k (Option.some.inj hh.1))]
  have e2 : sumB (fun v => sumB (fun r => if m v = some r ∧ Sr r = true then 1 else 0) R) L = sizeB Sr R := by
    rw [sumB_swap]
    refine sumB_congr fun r hr => ?_
    cases hs : Sr r
    · exact sumB_nil fun v _ => if_neg (by simp)
    · obtain ⟨v, k1, -⟩ := h.back r hr hs
      have hv := h.left v r hr k1
      rw [if_pos rfl]
      refine (sumB_congr fun u hu => ?_).trans (sumB_one hv)
      by_cases k : v = u
      · rw [if_pos k, ← k, if_pos ⟨(h.inv v r hv hr).2 k1, rfl⟩]
      · rw [if_neg k, if_neg (fun hh => k ?_)]
        have := (h.inv u r hu hr).1 hh.1
        rw [k1] at this
        exact Option.some.inj this
  rw [e1, sumB_add, e2]
  rfl
/-- so no matching is greater -/
theorem Rch.best {E : Nat → Nat → Bool} {L R : Nat} {m p : Nat → Option Nat} {Lr Sr : Nat → Bool} (h : Rch E L R m p Lr Sr) (hm : Mat E L R m) {m' : Nat → Option Nat} (hm' : Mat E L R m') : sizeM m' L ≤ sizeM m L := by
  rw [h.size hm]
  exact cover_bound hm' h.cov
end Go.Proofs.Ytolappaekjdcgaa
