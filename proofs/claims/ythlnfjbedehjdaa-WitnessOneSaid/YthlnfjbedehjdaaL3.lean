/- What Check accepts: facts for the laws. No program here. -/
import Derived.Test.YthlnfjbedehjdaaL2
import Derived.Test.YthlnfjbedehjdaaA18
namespace Go.Proofs.Ythlnfjbedehjdaa
theorem check_valid {q : RaceD} {x : VerD} (h : checkR q x = 0) : validB q = true := by
  unfold checkR at h
  by_cases hv : validB q = true
  · exact hv
  · rw [if_neg hv] at h; cases h
theorem check_kind {q : RaceD} {x : VerD} (h : checkR q x = 0) : kindB q x = true := by
  have hv := check_valid h
  unfold checkR at h
  rw [if_pos hv] at h
  by_cases hk : kindB q x = true
  · exact hk
  · rw [if_neg hk] at h; cases h
theorem sound_kinds {q : RaceD} {x : VerD} (h : checkR q x = 0) (outs : Nat → Int) (ho : ∀ i, i < q.opn.length → 1 ≤ outs i ∧ outs i ≤ 3) :
    (x.kind = 1 → (manyR q (finTo q outs q.opn.length) : Int) < q.place) ∧ (x.kind = 2 → q.place ≤ (moreR q (finTo q outs q.opn.length) : Int)) ∧ (x.kind = 3 → reachedR q x.reached = 0 ∧ missedR q x.missed = 0) ∧ (¬ x.kind = 1 → ¬ x.kind = 2 → ¬ x.kind = 3 → x.kind = 4) := by
  have hv := validB_iff.1 (check_valid h)
  have hk := check_kind h
  unfold kindB at hk
  refine ⟨fun e => ?_, fun e => ?_, fun e => ?_, fun e1 e2 e3 => ?_⟩
  · rw [if_pos e] at hk
    have := shown_kept hv hk outs ho
    rwa [if_pos rfl] at this
  · rw [if_neg (by omega), if_pos e] at hk
    have := shown_kept hv hk outs ho
    rwa [if_neg (by simp)] at this
  · rw [if_neg (by omega), if_neg (by omega), if_pos e] at hk
    unfold openB at hk
    simp only [Bool.and_eq_true, decide_eq_true_eq] at hk
    exact hk.2
  · rw [if_neg e1, if_neg e2, if_neg e3] at hk
    by_cases e4 : x.kind = 4
    · exact e4
    · rw [if_neg e4] at hk; cases hk
theorem more_many (c : Int) (p : List Int) (k : Nat) : moreTo c p k ≤ manyTo c p k := by
  induction k with
  | zero => exact Nat.le_refl _
  | succ k ih =>
    rw [moreTo_succ, manyTo_succ]
    by_cases h1 : (k : Int) ≠ c ∧ nthI p c.toNat < nthI p k
    · rw [if_pos h1, if_pos ⟨h1.1, by omega⟩]; omega
    · rw [if_neg h1]; split <;> omega
/-- what Reached and Missed say of the completion that they accept -/
theorem reached_more {q : RaceD} {o : List Int} (h : reachedR q o = 0) : complB q o = true ∧ (moreR q (finTo q (nthI o) q.opn.length) : Int) < q.place := by
  unfold reachedR at h
  by_cases h1 : validB q = true
  · rw [if_pos h1] at h
    by_cases h2 : complB q o = true
    · rw [if_pos h2] at h
      refine ⟨h2, ?_⟩
      by_cases h3 : q.place ≤ (moreR q (finR q o) : Int)
      · rw [if_pos h3] at h; cases h
      · unfold finR at h3; omega
    · rw [if_neg h2] at h; cases h
  · rw [if_neg h1] at h; cases h
theorem missed_many {q : RaceD} {o : List Int} (h : missedR q o = 0) : complB q o = true ∧ q.place ≤ (manyR q (finTo q (nthI o) q.opn.length) : Int) := by
  unfold missedR at h
  by_cases h1 : validB q = true
  · rw [if_pos h1] at h
    by_cases h2 : complB q o = true
    · rw [if_pos h2] at h
      refine ⟨h2, ?_⟩
      by_cases h3 : (manyR q (finR q o) : Int) < q.place
      · rw [if_pos h3] at h; cases h
      · unfold finR at h3; omega
    · rw [if_neg h2] at h; cases h
  · rw [if_neg h1] at h; cases h
theorem compl_in {q : RaceD} {o : List Int} (h : complB q o = true) : ∀ i, i < q.opn.length → 1 ≤ nthI o i ∧ nthI o i ≤ 3 := by
  unfold complB at h
  simp only [Bool.and_eq_true, decide_eq_true_eq, List.all_eq_true] at h
  intro i hi
  have h1 : i < o.length := by omega
  have := h.2 _ (List.getElem_mem h1)
  unfold outB at this
  simp only [Bool.and_eq_true, decide_eq_true_eq] at this
  rw [nthI_get h1]; exact this
/-- P29.4: no two kinds, but for unknown ones -/
theorem one_kind {q : RaceD} {x y : VerD} (h1 : checkR q x = 0) (h2 : checkR q y = 0) : x.kind = y.kind ∨ x.kind = 4 ∨ y.kind = 4 := by
  have a := sound_kinds h1
  have b := sound_kinds h2
  have ha := a (fun _ => 2) (fun _ _ => by omega)
  have hb := b (fun _ => 2) (fun _ _ => by omega)
  have hm := more_many q.club (finTo q (fun _ => 2) q.opn.length) (finTo q (fun _ => 2) q.opn.length).length
  have hm' : moreR q (finTo q (fun _ => 2) q.opn.length) ≤ manyR q (finTo q (fun _ => 2) q.opn.length) := hm
  have hk : ∀ z : VerD, ((¬ z.kind = 1 → ¬ z.kind = 2 → ¬ z.kind = 3 → z.kind = 4)) → z.kind = 1 ∨ z.kind = 2 ∨ z.kind = 3 ∨ z.kind = 4 := fun z h => by omega
  have open_out : ∀ (z o : VerD), (∀ outs : Nat → Int, (∀ i, i < q.opn.length → 1 ≤ outs i ∧ outs i ≤ 3) → ((z.kind = 1 → (manyR q (finTo q outs q.opn.length) : Int) < q.place) ∧ (z.kind = 2 → q.place ≤ (moreR q (finTo q outs q.opn.length) : Int)))) → (reachedR q o.reached = 0 ∧ missedR q o.missed = 0) → ¬ z.kind = 1 ∧ ¬ z.kind = 2 := by
    intro z o hz ho
    obtain ⟨c1, d1⟩ := reached_more ho.1
    obtain ⟨c2, d2⟩ := missed_many ho.2
    constructor
    · intro e
      have := (hz _ (compl_in c2)).1 e
      omega
    · intro e
      have := (hz _ (compl_in c1)).2 e
      omega
  rcases hk x ha.2.2.2 with e1 | e1 | e1 | e1 <;> rcases hk y hb.2.2.2 with e2 | e2 | e2 | e2
  all_goals first | (exact .inl (by omega)) | (exact .inr (.inl e1)) | (exact .inr (.inr e2)) | skip
  · exact absurd e1 (open_out x y (fun o h => ⟨(a o h).1, (a o h).2.1⟩) (hb.2.2.1 e2)).1
  · exact absurd e1 (open_out x y (fun o h => ⟨(a o h).1, (a o h).2.1⟩) (hb.2.2.1 e2)).2
  · exact absurd e2 (open_out y x (fun o h => ⟨(b o h).1, (b o h).2.1⟩) (ha.2.2.1 e1)).1
  · exact absurd e2 (open_out y x (fun o h => ⟨(b o h).1, (b o h).2.1⟩) (ha.2.2.1 e1)).2
end Go.Proofs.Ythlnfjbedehjdaa
