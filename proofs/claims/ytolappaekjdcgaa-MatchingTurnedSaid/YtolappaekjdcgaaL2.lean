/- Plain mathematics of matchings: augmenting along a path; what a failed search leaves stays closed. No program here. -/
import Derived.Test.YtolappaekjdcgaaK3
namespace Go.Proofs.Ytolappaekjdcgaa
open Sm
/-- f, but x at a -/
def upd (f : Nat → Int) (a : Nat) (x : Int) : Nat → Int := fun i => if i = a then x else f i
theorem upd_same (f : Nat → Int) (a : Nat) (x : Int) : upd f a x a = x := if_pos rfl
theorem upd_other {f : Nat → Int} {a i : Nat} {x : Int} (h : i ≠ a) : upd f a x i = f i := if_neg h
/-- a matching seen from both sides: -1 where there is none -/
structure MInv (E : Nat → Nat → Bool) (L R : Nat) (lf rf : Nat → Int) : Prop where
  rl : ∀ r, r < R → 0 ≤ rf r → ∃ v : Nat, rf r = (v : Int) ∧ v < L ∧ lf v = (r : Int)
  lr : ∀ v, v < L → 0 ≤ lf v → ∃ r : Nat, lf v = (r : Int) ∧ r < R ∧ rf r = (v : Int) ∧ E v r = true
  ll : ∀ v, v < L → -1 ≤ lf v
  rr : ∀ r, r < R → -1 ≤ rf r
/-- a set of right vertices, all matched, with all neighbours of their partners -/
def Clo (E : Nat → Nat → Bool) (L R : Nat) (rf : Nat → Int) (C : Nat → Prop) : Prop := ∀ r, r < R → C r → ∃ v : Nat, rf r = (v : Int) ∧ v < L ∧ ∀ q, q < R → E v q = true → C q
structure AugY (E : Nat → Nat → Bool) (L R : Nat) (S : Nat → Bool) (v : Nat) (lf rf lf' rf' : Nat → Int) : Prop where
  keep : ∀ r, r < R → S r = true → rf' r = rf r
  rl : ∀ r, r < R → lf v ≠ (r : Int) → 0 ≤ rf' r → ∃ u : Nat, rf' r = (u : Int) ∧ u < L ∧ lf' u = (r : Int)
  lr : ∀ u, u < L → 0 ≤ lf' u → ∃ r : Nat, lf' u = (r : Int) ∧ r < R ∧ rf' r = (u : Int) ∧ E u r = true
  ll : ∀ v, v < L → -1 ≤ lf' v
  rr : ∀ r, r < R → -1 ≤ rf' r
  got : ∃ r : Nat, lf' v = (r : Int) ∧ r < R ∧ S r = false
  more : ∀ u, u < L → 0 ≤ lf u → 0 ≤ lf' u
  only : ∀ u, u < L → u ≠ v → 0 ≤ lf' u → 0 ≤ lf u
  clo : ∀ C, Clo E L R rf C → (∃ q, q < R ∧ E v q = true ∧ ¬ C q) ∧ ∀ r, r < R → C r → rf' r = rf r
/-- the search on its way: the first k neighbours (rn) are seen, and all that came to be seen is closed -/
structure Sch (E : Nat → Nat → Bool) (L R : Nat) (rf : Nat → Int) (S0 S : Nat → Bool) (rn : Nat → Nat) (k : Nat) : Prop where
  sub : ∀ r, r < R → S0 r = true → S r = true
  first : ∀ j, j < k → S (rn j) = true
  clo : ∀ r, r < R → S r = true → S0 r = true ∨ ∃ u : Nat, rf r = (u : Int) ∧ u < L ∧ ∀ q, q < R → E u q = true → S q = true
/-- the search has failed -/
structure AugN (E : Nat → Nat → Bool) (L R : Nat) (rf : Nat → Int) (S0 S : Nat → Bool) (v : Nat) : Prop where
  sub : ∀ r, r < R → S0 r = true → S r = true
  nb : ∀ q, q < R → E v q = true → S q = true
  clo : ∀ r, r < R → S r = true → S0 r = true ∨ ∃ u : Nat, rf r = (u : Int) ∧ u < L ∧ ∀ q, q < R → E u q = true → S q = true
/-- S with r -/
def addS (S : Nat → Bool) (r : Nat) : Nat → Bool := fun q => if q = r then true else S q
theorem addS_same (S : Nat → Bool) (r : Nat) : addS S r r = true := if_pos rfl
theorem addS_sub {S : Nat → Bool} {r q : Nat} (h : S q = true) : addS S r q = true := by unfold addS; split; rfl; exact h
theorem addS_no {S : Nat → Bool} {r q : Nat} (h : addS S r q = false) : q ≠ r ∧ S q = false := by
  unfold addS at h
  split at h
  · cases h
  · next hn => exact ⟨hn, h⟩
section
variable {E : Nat → Nat → Bool} {L R : Nat} {lf rf lf1 rf1 : Nat → Int} {S0 S S' : Nat → Bool} {rn : Nat → Nat} {k v u r : Nat}
theorem Sch.start : Sch E L R rf S S rn 0 := ⟨fun _ _ h => h, fun _ h => absurd h (by omega), fun _ _ h => .inl h⟩
theorem Sch.seen (h : Sch E L R rf S0 S rn k) (hs : S (rn k) = true) : Sch E L R rf S0 S rn (k + 1) :=
  ⟨h.sub, fun j hj => by
    rcases Nat.lt_or_ge j k with h1 | h1
    · exact h.first j h1
    · rw [show j = k by omega]; exact hs, h.clo⟩
theorem Sch.fail (h : Sch E L R rf S0 S rn k) (hr : rn k < R) (hlt : ∀ j, j < k → rn j < R) (hu : rf (rn k) = (u : Int)) (huL : u < L) (hn : AugN E L R rf (addS S (rn k)) S' u) : Sch E L R rf S0 S' rn (k + 1) := by
  have up : ∀ q, q < R → S q = true → S' q = true := fun q hq hs => hn.sub q hq (addS_sub hs)
  refine ⟨fun q hq hs => up q hq (h.sub q hq hs), fun j hj => ?_, fun q hq hs => ?_⟩
  · rcases Nat.lt_or_ge j k with h1 | h1
    · exact up _ (hlt j h1) (h.first j h1)
    · rw [show j = k by omega]; exact hn.sub _ hr (addS_same _ _)
  · rcases hn.clo q hq hs with h1 | h1
    · by_cases e : q = rn k
      · subst e
        exact .inr ⟨u, hu, huL, hn.nb⟩
      · have h2 : S q = true := by unfold addS at h1; rwa [if_neg e] at h1
        rcases h.clo q hq h2 with h3 | ⟨u', k1, k2, k3⟩
        · exact .inl h3
        · exact .inr ⟨u', k1, k2, fun p hp hE => up p hp (k3 p hp hE)⟩
    · exact .inr h1
theorem Sch.none (h : Sch E L R rf S0 S rn k) (hall : ∀ q, q < R → E v q = true → ∃ j, j < k ∧ rn j = q) : AugN E L R rf S0 S v :=
  ⟨h.sub, fun q hq hE => by obtain ⟨j, hj, rfl⟩ := hall q hq hE; exact h.first j hj, h.clo⟩
/-- a free right vertex -/
theorem aug_free (hm : MInv E L R lf rf) (hv : v < L) (hr : r < R) (hE : E v r = true) (hs : S r = false) (hf : rf r < 0) (hvS : 0 ≤ lf v → ∃ q : Nat, lf v = (q : Int) ∧ S q = true) : AugY E L R S v lf rf (upd lf v r) (upd rf r v) := by
  refine ⟨fun q hq hqs => upd_other fun e => ?_, fun q hq hne h0 => ?_, fun w hw h0 => ?_, fun w hw => ?_, fun q hq => ?_, ⟨r, upd_same _ _ _, hr, hs⟩, fun w hw h0 => ?_, fun w hw hne h0 => ?_, fun C hC => ⟨⟨r, hr, hE, fun hc => ?_⟩, fun q hq hc => upd_other fun e => ?_⟩⟩
  · rw [e, hs] at hqs; cases hqs
  · by_cases e : q = r
    · subst e
      exact ⟨v, upd_same _ _ _, hv, upd_same _ _ _⟩
    · rw [upd_other e] at h0 ⊢
      obtain ⟨w, k1, k2, k3⟩ := hm.rl q hq h0
      refine ⟨w, k1, k2, ?_⟩
      rw [upd_other (fun e2 => hne (by rw [← e2]; exact k3))]
      exact k3
  · by_cases e : w = v
    · subst e
      exact ⟨r, upd_same _ _ _, hr, upd_same _ _ _, hE⟩
    · rw [upd_other e] at h0 ⊢
      obtain ⟨q, k1, k2, k3, k4⟩ := hm.lr w hw h0
      exact ⟨q, k1, k2, by rw [upd_other (fun e2 => by rw [e2] at k3; omega)]; exact k3, k4⟩
  · by_cases e : w = v
    · subst e; rw [upd_same]; omega
    · rw [upd_other e]; exact hm.ll w hw
  · by_cases e : q = r
    · subst e; rw [upd_same]; omega
    · rw [upd_other e]; exact hm.rr q hq
  · by_cases e : w = v
    · subst e; rw [upd_same]; omega
    · rw [upd_other e]; exact h0
  · rwa [upd_other hne] at h0
  · obtain ⟨w, k1, -⟩ := hC r hr hc
    omega
  · rw [e] at hc
    obtain ⟨w, k1, -⟩ := hC r hr hc
    omega
/-- the partner of r has found another -/
theorem aug_yes (hm : MInv E L R lf rf) (hv : v < L) (hr : r < R) (hE : E v r = true) (hs0 : ∀ q, q < R → S0 q = true → S q = true) (hs : S r = false) (hu : rf r = (u : Int)) (hvS : 0 ≤ lf v → ∃ q : Nat, lf v = (q : Int) ∧ q < R ∧ S q = true)
    (hy : AugY E L R (addS S r) u lf rf lf1 rf1) : AugY E L R S0 v lf rf (upd lf1 v r) (upd rf1 r v) := by
  have hur : lf u = (r : Int) ∧ u < L := by
    obtain ⟨w, k1, k2, k3⟩ := hm.rl r hr (by omega)
    have : w = u := by omega
    subst this
    exact ⟨k3, k2⟩
  have huv : u ≠ v := fun e => by
    subst e
    obtain ⟨q, k1, -, k2⟩ := hvS (by rw [hur.1]; omega)
    have : q = r := by rw [hur.1] at k1; omega
    rw [this, hs] at k2
    cases k2
  have hr1 : rf1 r = (u : Int) := (hy.keep r hr (addS_same _ _)).trans hu
  obtain ⟨r1, g1, g2, g3⟩ := hy.got
  have g3 := addS_no g3
  refine ⟨fun q hq hqs => ?_, fun q hq hne h0 => ?_, fun w hw h0 => ?_, fun w hw => ?_, fun q hq => ?_, ⟨r, upd_same _ _ _, hr, ?_⟩, fun w hw h0 => ?_, fun w hw hne h0 => ?_, fun C hC => ?_⟩
  · have := hs0 q hq hqs
    rw [upd_other (fun e => by rw [e, hs] at this; cases this)]
    exact hy.keep q hq (addS_sub this)
  · by_cases e : q = r
    · subst e
      exact ⟨v, upd_same _ _ _, hv, upd_same _ _ _⟩
    · rw [upd_other e] at h0 ⊢
      obtain ⟨w, k1, k2, k3⟩ := hy.rl q hq (by rw [hur.1]; omega) h0
      refine ⟨w, k1, k2, ?_⟩
      by_cases e2 : w = v
      · subst e2
        exfalso
        by_cases h2 : 0 ≤ lf w
        · obtain ⟨q0, j1, j2, j3⟩ := hvS h2
          have j4 := hy.keep q0 j2 (addS_sub j3)
          obtain ⟨q1, j5, j6, j7, -⟩ := hm.lr w hv h2
          have : q1 = q0 := by omega
          subst this
          obtain ⟨w2, m1, m2, m3⟩ := hy.rl q1 j2 (by
            rw [hur.1]
            intro e3
            have : r = q1 := by omega
            rw [← this] at j7
            omega) (by omega)
          have : w2 = w := by omega
          subst this
          omega
        · have := hy.only w hv (fun e => huv e.symm) (by omega)
          exact h2 this
      · rw [upd_other e2]; exact k3
  · by_cases e : w = v
    · subst e
      exact ⟨r, upd_same _ _ _, hr, upd_same _ _ _, hE⟩
    · rw [upd_other e] at h0 ⊢
      obtain ⟨q, k1, k2, k3, k4⟩ := hy.lr w hw h0
      refine ⟨q, k1, k2, ?_, k4⟩
      rw [upd_other fun e2 => ?_]
      · exact k3
      · subst e2
        have : w = u := by omega
        subst this
        omega
  · by_cases e : w = v
    · subst e; rw [upd_same]; omega
    · rw [upd_other e]; exact hy.ll w hw
  · by_cases e : q = r
    · subst e; rw [upd_same]; omega
    · rw [upd_other e]; exact hy.rr q hq
  · cases e : S0 r
    · rfl
    · rw [hs0 r hr e] at hs; cases hs
  · by_cases e : w = v
    · subst e; rw [upd_same]; omega
    · rw [upd_other e]; exact hy.more w hw h0
  · rw [upd_other hne] at h0
    by_cases e : w = u
    · subst e; rw [hur.1]; omega
    · exact hy.only w hw e h0
  · obtain ⟨⟨q, k1, k2, k3⟩, k4⟩ := hy.clo C hC
    have hrC : ¬ C r := fun hc => by
      obtain ⟨w, j1, j2, j3⟩ := hC r hr hc
      have : w = u := by omega
      subst this
      exact k3 (j3 q k1 k2)
    exact ⟨⟨r, hr, hE, hrC⟩, fun q hq hc => (upd_other (i := q) (a := r) fun e => hrC (e ▸ hc)).trans (k4 q hq hc)⟩
end
end Go.Proofs.Ytolappaekjdcgaa
