/- Plain mathematics of matchings: the search goes through the left vertices; what it leaves unmatched is shut in. No program here. -/
import Derived.Test.YtolappaekjdcgaaL2
namespace Go.Proofs.Ytolappaekjdcgaa
/-- after the first k left vertices -/
structure FInv (E : Nat → Nat → Bool) (L R : Nat) (lf rf : Nat → Int) (k : Nat) : Prop where
  inv : MInv E L R lf rf
  free : ∀ v, v < L → k ≤ v → lf v < 0
  clo : ∀ u, u < L → u < k → lf u < 0 → ∃ C : Nat → Prop, Clo E L R rf C ∧ ∀ q, q < R → E u q = true → C q
section
variable {E : Nat → Nat → Bool} {L R : Nat} {lf rf lf' rf' : Nat → Int} {S : Nat → Bool} {k : Nat}
theorem FInv.start : FInv E L R (fun _ => -1) (fun _ => -1) 0 :=
  ⟨⟨fun _ _ h => absurd h (by decide), fun _ _ h => absurd h (by decide), fun _ _ => by decide, fun _ _ => by decide⟩, fun _ _ _ => by decide, fun _ _ h => absurd h (by omega)⟩
theorem FInv.no (h : FInv E L R lf rf k) (hn : AugN E L R rf (fun _ => false) S k) : FInv E L R lf rf (k + 1) :=
  ⟨h.inv, fun v hv hk => h.free v hv (by omega), fun u hu huk h0 => by
    rcases Nat.lt_or_ge u k with h1 | h1
    · exact h.clo u hu h1 h0
    · obtain rfl : u = k := by omega
      exact ⟨fun r => S r = true, fun r hr hs => by
        rcases hn.clo r hr hs with h2 | h2
        · cases h2
        · exact h2, fun q hq he => hn.nb q hq he⟩⟩
theorem FInv.yes (h : FInv E L R lf rf k) (hk : k < L) (hy : AugY E L R (fun _ => false) k lf rf lf' rf') : FInv E L R lf' rf' (k + 1) := by
  have h0 := h.free k hk (Nat.le_refl _)
  refine ⟨⟨fun r hr h1 => hy.rl r hr (by omega) h1, hy.lr, hy.ll, hy.rr⟩, fun v hv hkv => ?_, fun u hu huk h1 => ?_⟩
  · have h2 := h.free v hv (by omega)
    have h3 := hy.only v hv (by omega)
    rcases Int.lt_or_le (lf' v) 0 with h4 | h4
    · exact h4
    · have := h3 h4; omega
  · obtain ⟨r, g1, -, -⟩ := hy.got
    have hne : u ≠ k := fun e => by rw [e] at h1; omega
    have h2 : lf u < 0 := by
      rcases Int.lt_or_le (lf u) 0 with h4 | h4
      · exact h4
      · have := hy.more u hu h4; omega
    obtain ⟨C, c1, c2⟩ := h.clo u hu (by omega) h2
    refine ⟨C, fun r hr hc => ?_, c2⟩
    rw [(hy.clo C c1).2 r hr hc]
    exact c1 r hr hc
end
end Go.Proofs.Ytolappaekjdcgaa
