/- Sets of k elements of a list, in lexicographic order; rivals. No program here. -/
import Derived.Test.YthlnfjbedehjdaaA17
import Derived.Test.YthlnfjbedehjdaaC1
namespace Go.Proofs.Ythlnfjbedehjdaa
/-- all lists of k elements of a list, in its order -/
def comb : List Int → Nat → List (List Int)
  | _, 0 => [[]]
  | [], _ + 1 => []
  | x :: l, k + 1 => (comb l k).map (x :: ·) ++ comb l (k + 1)
theorem comb_zero (l : List Int) : comb l 0 = [[]] := by cases l <;> rfl
theorem comb_cons (x : Int) (l : List Int) (k : Nat) : comb (x :: l) (k + 1) = (comb l k).map (x :: ·) ++ comb l (k + 1) := rfl
theorem comb_few : ∀ (l : List Int) (k : Nat), l.length < k → comb l k = []
  | l, 0, h => absurd h (by omega)
  | [], k + 1, _ => rfl
  | x :: l, k + 1, h => by
    rw [List.length_cons] at h
    rw [comb_cons, comb_few l k (by omega), comb_few l (k + 1) (by omega)]; rfl
theorem comb_drop {l : List Int} {i : Nat} (h : i < l.length) (k : Nat) : comb (l.drop i) (k + 1) = (comb (l.drop (i + 1)) k).map (nthI l i :: ·) ++ comb (l.drop (i + 1)) (k + 1) := by
  rw [List.drop_eq_getElem_cons h, comb_cons, nthI_get h]
theorem comb_pow : ∀ (l : List Int) (k : Nat), (comb l k).length ≤ 2 ^ l.length
  | l, 0 => by rw [comb_zero]; exact Nat.one_le_two_pow
  | [], k + 1 => by simp [comb]
  | x :: l, k + 1 => by
    have h1 := comb_pow l k
    have h2 := comb_pow l (k + 1)
    rw [comb_cons, List.length_append, List.length_map, List.length_cons, Nat.pow_succ]
    omega
theorem comb_length : ∀ (l : List Int) (k : Nat), ∀ s ∈ comb l k, s.length = k
  | l, 0, s, h => by rw [comb_zero] at h; rw [List.mem_singleton.1 h]; rfl
  | [], k + 1, s, h => by cases h
  | x :: l, k + 1, s, h => by
    rw [comb_cons, List.mem_append, List.mem_map] at h
    rcases h with ⟨t, ht, rfl⟩ | h
    · rw [List.length_cons, comb_length l k t ht]
    · exact comb_length l (k + 1) s h
/-- the rivals among the first k clubs -/
def rivTo (q : RaceD) (k : Nat) : List Int := ((List.range k).filter fun (i : Nat) => decide ((i : Int) ≠ q.club)).map fun (i : Nat) => (i : Int)
def rivR (q : RaceD) : List Int := rivTo q q.clubs.length
theorem rivTo_zero (q : RaceD) : rivTo q 0 = [] := rfl
theorem rivTo_yes {q : RaceD} {k : Nat} (h : (k : Int) ≠ q.club) : rivTo q (k + 1) = rivTo q k ++ [(k : Int)] := by
  unfold rivTo; rw [List.range_succ, List.filter_append, List.map_append]; simp [h]
theorem rivTo_no {q : RaceD} {k : Nat} (h : (k : Int) = q.club) : rivTo q (k + 1) = rivTo q k := by
  unfold rivTo; rw [List.range_succ, List.filter_append, List.map_append]; simp [h]
theorem rivTo_le (q : RaceD) (k : Nat) : (rivTo q k).length ≤ k := by
  unfold rivTo; rw [List.length_map]; exact Nat.le_trans (List.length_filter_le _ _) (Nat.le_of_eq List.length_range)
theorem rivTo_lt {q : RaceD} {k : Nat} (h0 : 0 ≤ q.club) (h : q.club < k) : (rivTo q k).length + 1 = k := by
  induction k with
  | zero => omega
  | succ k ih =>
    by_cases e : (k : Int) = q.club
    · rw [rivTo_no e]
      have : (rivTo q k).length = k := by
        unfold rivTo
        rw [List.length_map, List.filter_eq_self.2, List.length_range]
        intro i hi
        rw [decide_eq_true_eq]
        have := List.mem_range.1 hi
        omega
      omega
    · rw [rivTo_yes e, List.length_append, List.length_singleton, ih (by omega)]
/-- what a range over the sets yields -/
structure Sy where
  val : Value
  set : List Int
def encS (x : Sy) : Array Value := #[x.val]
/-- the slice of a yield lies outside of X and is the next of L -/
def RSy (X : Nat → Prop) (L : List (List Int)) (pre : List Sy) (x : Sy) (W : World) : Prop := (∃ rest, L = pre.map Sy.set ++ x.set :: rest) ∧ IsInts W (fun b => ¬ X b) x.val x.set
theorem RSy.quiet (X : Nat → Prop) (L : List (List Int)) (B : Nat) (pre : List Sy) (x : Sy) : Quiets B (RSy X L pre x) := fun W l o o' _ h hl hc => ⟨h.1, KC.sl (X := X) (kc_b W l o o' hl hc) (fun _ h => h) h.2⟩
end Go.Proofs.Ythlnfjbedehjdaa
