/- Plain mathematics of matchings: what the walk along alternating paths reaches. No program here. -/
import Derived.Test.YtolappaekjdcgaaL3
namespace Go.Proofs.Ytolappaekjdcgaa
/-- a pair of sets that the walk does not leave -/
structure Shut2 (E : Nat → Nat → Bool) (L R : Nat) (rf : Nat → Int) (A B : Nat → Prop) : Prop where
  nb : ∀ u r, u < L → r < R → A u → E u r = true → B r
  back : ∀ r (q : Nat), r < R → q < L → B r → rf r = (q : Int) → A q
/-- all that u leads to -/
def Full (E : Nat → Nat → Bool) (L R : Nat) (rf : Nat → Int) (Sl Sr : Nat → Bool) (u : Nat) : Prop := ∀ r, r < R → E u r = true → Sr r = true ∧ ∀ q : Nat, q < L → rf r = (q : Int) → Sl q = true
structure WkY (E : Nat → Nat → Bool) (L R : Nat) (rf : Nat → Int) (Sl Sr : Nat → Bool) (v : Nat) (Sl' Sr' : Nat → Bool) : Prop where
  subl : ∀ u, u < L → Sl u = true → Sl' u = true
  subr : ∀ r, r < R → Sr r = true → Sr' r = true
  has : Sl' v = true
  step : ∀ u, u < L → Sl' u = true → Sl u = true ∨ Full E L R rf Sl' Sr' u
  min : ∀ A B, Shut2 E L R rf A B → A v → (∀ u, u < L → Sl u = true → A u) → (∀ r, r < R → Sr r = true → B r) → (∀ u, u < L → Sl' u = true → A u) ∧ (∀ r, r < R → Sr' r = true → B r)
/-- the walk from v on its way, v itself among Sl -/
structure Wk (E : Nat → Nat → Bool) (L R : Nat) (rf : Nat → Int) (Sl Sr : Nat → Bool) (v : Nat) (Sl' Sr' : Nat → Bool) (rn : Nat → Nat) (k : Nat) : Prop where
  subl : ∀ u, u < L → addS Sl v u = true → Sl' u = true
  subr : ∀ r, r < R → Sr r = true → Sr' r = true
  step : ∀ u, u < L → Sl' u = true → addS Sl v u = true ∨ Full E L R rf Sl' Sr' u
  first : ∀ j, j < k → Sr' (rn j) = true ∧ ∀ q : Nat, q < L → rf (rn j) = (q : Int) → Sl' q = true
  min : ∀ A B, Shut2 E L R rf A B → A v → (∀ u, u < L → Sl u = true → A u) → (∀ r, r < R → Sr r = true → B r) → (∀ u, u < L → Sl' u = true → A u) ∧ (∀ r, r < R → Sr' r = true → B r)
section
variable {E : Nat → Nat → Bool} {L R : Nat} {rf : Nat → Int} {Sl Sr Sl1 Sr1 Sl2 Sr2 : Nat → Bool} {v k r : Nat} {rn : Nat → Nat}
theorem Full.mono {u : Nat} (h : Full E L R rf Sl1 Sr1 u) (h1 : ∀ u, u < L → Sl1 u = true → Sl2 u = true) (h2 : ∀ r, r < R → Sr1 r = true → Sr2 r = true) : Full E L R rf Sl2 Sr2 u := fun r hr he =>
  ⟨h2 r hr (h r hr he).1, fun q hq hf => h1 q hq ((h r hr he).2 q hq hf)⟩
theorem WkY.old (h : Sl v = true) : WkY E L R rf Sl Sr v Sl Sr := ⟨fun _ _ h => h, fun _ _ h => h, h, fun _ _ h => .inl h, fun _ _ _ _ h1 h2 => ⟨h1, h2⟩⟩
theorem Wk.start : Wk E L R rf Sl Sr v (addS Sl v) Sr rn 0 :=
  ⟨fun _ _ h => h, fun _ _ h => h, fun _ _ h => .inl h, fun _ h => absurd h (by omega), fun A B _ hv h1 h2 => ⟨fun u hu hs => by
    by_cases e : u = v
    · rw [e]; exact hv
    · refine h1 u hu ?_
      unfold addS at hs
      rwa [if_neg e] at hs, h2⟩⟩
/-- a neighbour without a partner -/
theorem Wk.free (h : Wk E L R rf Sl Sr v Sl1 Sr1 rn k) (hv : v < L) (hr : rn k < R) (hE : E v (rn k) = true) (hlt : ∀ j, j < k → rn j < R) (hf : rf (rn k) < 0) : Wk E L R rf Sl Sr v Sl1 (addS Sr1 (rn k)) rn (k + 1) := by
  have h2 : ∀ r, r < R → Sr1 r = true → addS Sr1 (rn k) r = true := fun r _ hs => addS_sub hs
  refine ⟨h.subl, fun r hr hs => addS_sub (h.subr r hr hs), fun u hu hs => (h.step u hu hs).imp id fun hf => hf.mono (fun _ _ hs => hs) h2, fun j hj => ?_, fun A B hAB hvA h1 hB => ?_⟩
  · rcases Nat.lt_or_ge j k with h3 | h3
    · exact ⟨h2 _ (hlt j h3) (h.first j h3).1, (h.first j h3).2⟩
    · obtain rfl : j = k := by omega
      exact ⟨addS_same _ _, fun q hq e => by omega⟩
  · obtain ⟨m1, m2⟩ := h.min A B hAB hvA h1 hB
    refine ⟨m1, fun r hr hs => ?_⟩
    by_cases e : r = rn k
    · rw [e]; exact hAB.nb v _ hv (by assumption) hvA hE
    · refine m2 r hr ?_
      unfold addS at hs
      rwa [if_neg e] at hs
/-- a neighbour with the partner q, from which the walk has gone on -/
theorem Wk.go {q : Nat} (h : Wk E L R rf Sl Sr v Sl1 Sr1 rn k) (hv : v < L) (hr : rn k < R) (hE : E v (rn k) = true) (hlt : ∀ j, j < k → rn j < R) (hq : q < L) (hf : rf (rn k) = (q : Int)) (hy : WkY E L R rf Sl1 (addS Sr1 (rn k)) q Sl2 Sr2) : Wk E L R rf Sl Sr v Sl2 Sr2 rn (k + 1) := by
  have h2 : ∀ r, r < R → Sr1 r = true → Sr2 r = true := fun r hr hs => hy.subr r hr (addS_sub hs)
  refine ⟨fun u hu hs => hy.subl u hu (h.subl u hu hs), fun r hr hs => h2 r hr (h.subr r hr hs), fun u hu hs => ?_, fun j hj => ?_, fun A B hAB hvA h1 hB => ?_⟩
  · rcases hy.step u hu hs with h3 | h3
    · exact (h.step u hu h3).imp id fun hf => hf.mono hy.subl h2
    · exact .inr h3
  · rcases Nat.lt_or_ge j k with h3 | h3
    · exact ⟨h2 _ (hlt j h3) (h.first j h3).1, fun q hq e => hy.subl q hq ((h.first j h3).2 q hq e)⟩
    · obtain rfl : j = k := by omega
      exact ⟨hy.subr _ hr (addS_same _ _), fun q' _ e => by rw [show q' = q by omega]; exact hy.has⟩
  · obtain ⟨m1, m2⟩ := h.min A B hAB hvA h1 hB
    have hB2 : B (rn k) := hAB.nb v _ hv hr hvA hE
    refine hy.min A B hAB (hAB.back _ q hr hq hB2 hf) m1 fun r hr hs => ?_
    by_cases e : r = rn k
    · rw [e]; exact hB2
    · refine m2 r hr ?_
      unfold addS at hs
      rwa [if_neg e] at hs
theorem Wk.done (h : Wk E L R rf Sl Sr v Sl1 Sr1 rn k) (hv : v < L) (hall : ∀ q, E v q = true → ∃ j, j < k ∧ rn j = q) : WkY E L R rf Sl Sr v Sl1 Sr1 :=
  ⟨fun u hu hs => h.subl u hu (addS_sub hs), h.subr, h.subl v hv (addS_same _ _), fun u hu hs => by
    rcases h.step u hu hs with h1 | h1
    · by_cases e : u = v
      · subst e
        refine .inr fun r _ he => ?_
        obtain ⟨j, hj, rfl⟩ := hall r he
        exact h.first j hj
      · refine .inl ?_
        unfold addS at h1
        rwa [if_neg e] at h1
    · exact .inr h1, h.min⟩
/-- after walks from all unmatched ones of the first k -/
structure Rd (E : Nat → Nat → Bool) (L R : Nat) (lf rf : Nat → Int) (Sl Sr : Nat → Bool) (k : Nat) : Prop where
  from_ : ∀ v, v < L → v < k → lf v < 0 → Sl v = true
  full : ∀ u, u < L → Sl u = true → Full E L R rf Sl Sr u
  min : ∀ A B, Shut2 E L R rf A B → (∀ v, v < L → lf v < 0 → A v) → (∀ u, u < L → Sl u = true → A u) ∧ (∀ r, r < R → Sr r = true → B r)
theorem Rd.start {lf : Nat → Int} : Rd E L R lf rf (fun _ => false) (fun _ => false) 0 :=
  ⟨fun _ _ h => absurd h (by omega), fun _ _ h => absurd h (by decide), fun _ _ _ _ => ⟨fun _ _ h => absurd h (by decide), fun _ _ h => absurd h (by decide)⟩⟩
theorem Rd.skip {lf : Nat → Int} (h : Rd E L R lf rf Sl Sr k) (hk : 0 ≤ lf k) : Rd E L R lf rf Sl Sr (k + 1) :=
  ⟨fun v hv hvk h0 => h.from_ v hv (by have : v ≠ k := fun e => by rw [e] at h0; omega
                                       omega) h0, h.full, h.min⟩
theorem Rd.go {lf : Nat → Int} (h : Rd E L R lf rf Sl Sr k) (hk : k < L) (h0 : lf k < 0) (hy : WkY E L R rf Sl Sr k Sl1 Sr1) : Rd E L R lf rf Sl1 Sr1 (k + 1) :=
  ⟨fun v hv hvk h1 => by
    by_cases e : v = k
    · rw [e]; exact hy.has
    · exact hy.subl v hv (h.from_ v hv (by omega) h1), fun u hu hs => by
    rcases hy.step u hu hs with h1 | h1
    · exact (h.full u hu h1).mono hy.subl hy.subr
    · exact h1, fun A B hAB hA => by
    obtain ⟨m1, m2⟩ := h.min A B hAB hA
    exact hy.min A B hAB (hA k hk h0) m1 m2⟩
/-- the matching as options -/
def opt (f : Nat → Int) : Nat → Option Nat := fun v => if f v < 0 then none else some (f v).toNat
theorem opt_none {f : Nat → Int} {v : Nat} : opt f v = none ↔ f v < 0 := by unfold opt; split <;> simp [*]
theorem opt_some {f : Nat → Int} {v r : Nat} : opt f v = some r ↔ f v = (r : Int) := by
  unfold opt
  split
  · simp; omega
  · simp only [Option.some.injEq]; omega
theorem MInv.mat {lf : Nat → Int} (h : MInv E L R lf rf) : Mat E L R (opt lf) := by
  refine ⟨fun v r hv e => ?_, fun u v r hu hv e1 e2 => ?_⟩
  · rw [opt_some] at e
    obtain ⟨q, k1, k2, k3, k4⟩ := h.lr v hv (by omega)
    have : q = r := by omega
    subst this
    exact ⟨k4, k2⟩
  · rw [opt_some] at e1 e2
    obtain ⟨q, k1, k2, k3, -⟩ := h.lr u hu (by omega)
    obtain ⟨p, j1, j2, j3, -⟩ := h.lr v hv (by omega)
    have : q = p := by omega
    subst this
    omega
/-- Koenig: the sets of the walk are a cover's -/
theorem rch_of {lf : Nat → Int} (h : FInv E L R lf rf L) (hd : Rd E L R lf rf Sl Sr L) : Rch E L R (opt lf) (opt rf) Sl Sr := by
  have hback : ∀ r, r < R → Sr r = true → (∃ v : Nat, rf r = (v : Int) ∧ v < L) ∧ ∃ u, u < L ∧ Sl u = true ∧ E u r = true := fun r hr hs => by
    -- the union of the closed sets
    have hS : Shut2 E L R rf (fun u => ∀ q, q < R → E u q = true → ∃ C : Nat → Prop, Clo E L R rf C ∧ C q) (fun q => ∃ C : Nat → Prop, Clo E L R rf C ∧ C q) :=
      ⟨fun u r _ hr hA he => hA r hr he, fun r q hr _ ⟨C, c1, c2⟩ e p hp he => by
        obtain ⟨w, k1, k2, k3⟩ := c1 r hr c2
        have : w = q := by omega
        subst this
        exact ⟨C, c1, k3 p hp he⟩⟩
    obtain ⟨-, m2⟩ := hd.min _ _ hS fun v hv h0 q hq he => by
      obtain ⟨C, c1, c2⟩ := h.clo v hv hv h0
      exact ⟨C, c1, c2 q hq he⟩
    obtain ⟨C, c1, c2⟩ := m2 r hr hs
    obtain ⟨v, k1, k2, -⟩ := c1 r hr c2
    refine ⟨⟨v, k1, k2⟩, ?_⟩
    have hT : Shut2 E L R rf (fun u => Sl u = true) (fun q => Sr q = true ∧ ∃ u, u < L ∧ Sl u = true ∧ E u q = true) :=
      ⟨fun u q hu hq hA he => ⟨(hd.full u hu hA q hq he).1, u, hu, hA, he⟩, fun q p hq hp ⟨b1, u, b2, b3, b4⟩ e => (hd.full u b2 b3 q hq b4).2 p hp e⟩
    exact ((hd.min _ _ hT fun v hv h0 => hd.from_ v hv hv h0).2 r hr hs).2
  refine ⟨fun v r hv hr => ?_, fun v r hr e => ?_, fun v hv e => ?_, fun v r hv hr hs he => (hd.full v hv hs r hr he).1, fun r hr hs => ?_⟩
  · rw [opt_some, opt_some]
    constructor
    · intro e
      obtain ⟨q, k1, k2, k3, -⟩ := h.inv.lr v hv (by omega)
      have : q = r := by omega
      subst this
      exact k3
    · intro e
      obtain ⟨u, k1, k2, k3⟩ := h.inv.rl r hr (by omega)
      have : u = v := by omega
      subst this
      exact k3
  · rw [opt_some] at e
    obtain ⟨u, k1, k2, -⟩ := h.inv.rl r hr (by omega)
    omega
  · rw [opt_none] at e
    exact hd.from_ v hv hv e
  · obtain ⟨⟨v, k1, k2⟩, u, b1, b2, b3⟩ := hback r hr hs
    exact ⟨v, opt_some.2 k1, (hd.full u b1 b2 r hr b3).2 v k2 k1⟩
/-- there is a walk's end, whether it is computed or not: so the matching is of the greatest size -/
theorem finv_best {lf : Nat → Int} (h : FInv E L R lf rf L) {m : Nat → Option Nat} (hm : Mat E L R m) : sizeM m L ≤ sizeM (opt lf) L := by
  -- the cover: right, the union of the closed sets; left, what is not shut in
  have hfree : ∀ v, v < L → opt lf v = none → ∀ q, q < R → E v q = true → ∃ C : Nat → Prop, Clo E L R rf C ∧ C q := fun v hv e q hq he => by
    obtain ⟨C, c1, c2⟩ := h.clo v hv hv (opt_none.1 e)
    exact ⟨C, c1, c2 q hq he⟩
  have hdec : ∃ Sr : Nat → Bool, ∀ q, Sr q = true ↔ ∃ C : Nat → Prop, Clo E L R rf C ∧ C q := ⟨fun q => @decide _ (Classical.propDecidable (∃ C : Nat → Prop, Clo E L R rf C ∧ C q)), fun q => by simp⟩
  obtain ⟨Sr, hSr⟩ := hdec
  have hdec2 : ∃ Sl : Nat → Bool, ∀ u, Sl u = true ↔ ∀ q, q < R → E u q = true → Sr q = true := ⟨fun u => @decide _ (Classical.propDecidable (∀ q, q < R → E u q = true → Sr q = true)), fun q => by simp⟩
  obtain ⟨Sl, hSl⟩ := hdec2
  have hr : Rch E L R (opt lf) (opt rf) Sl Sr := by
    refine ⟨fun v r hv hr => ?_, fun v r hr e => ?_, fun v hv e => (hSl v).2 fun q hq he => (hSr q).2 (hfree v hv e q hq he), fun v r hv hr hs he => (hSl v).1 hs r hr he, fun r hr hs => ?_⟩
    · rw [opt_some, opt_some]
      constructor
      · intro e
        obtain ⟨q, k1, k2, k3, -⟩ := h.inv.lr v hv (by omega)
        have : q = r := by omega
        subst this
        exact k3
      · intro e
        obtain ⟨u, k1, k2, k3⟩ := h.inv.rl r hr (by omega)
        have : u = v := by omega
        subst this
        exact k3
    · rw [opt_some] at e
      obtain ⟨u, k1, k2, -⟩ := h.inv.rl r hr (by omega)
      omega
    · obtain ⟨C, c1, c2⟩ := (hSr r).1 hs
      obtain ⟨v, k1, k2, k3⟩ := c1 r hr c2
      exact ⟨v, opt_some.2 k1, (hSl v).2 fun q hq he => (hSr q).2 ⟨C, c1, k3 q hq he⟩⟩
  exact hr.best h.inv.mat hm
end
end Go.Proofs.Ytolappaekjdcgaa
