/- Plain mathematics of draws: the outcome with a number, the number of an outcome, their order. No program here. -/
import Derived.Test.YtbkgkgigcohbpaaM3
namespace Go.Proofs.Ytbkgkgigcohbpaa
theorem flatMap_get {α : Type} (g : Nat → List α) {j k : Nat} : ∀ {n : Nat}, j < n → sumB (fun i => (g i).length) j ≤ k → k < sumB (fun i => (g i).length) (j + 1) → ((List.range n).flatMap g)[k]? = (g j)[k - sumB (fun i => (g i).length) j]?
  | 0, h, _, _ => absurd h (by omega)
  | n + 1, h, h1, h2 => by
    rw [List.range_succ, List.flatMap_append]
    have hl := flatMap_len g n
    rcases Nat.lt_or_ge j n with hj | hj
    · have hm := sumB_mono (f := fun i => (g i).length) (show j + 1 ≤ n by omega)
      rw [List.getElem?_append_left (by rw [hl]; omega)]
      exact flatMap_get g hj h1 h2
    · obtain rfl : j = n := by omega
      rw [List.getElem?_append_right (by rw [hl]; exact h1), hl, List.flatMap_singleton]
section
variable (may : Nat → Nat → Bool) (n : Nat)
/-- the ways to go on from a set, written out -/
def On (s : Nat) : List (List Nat) := outs may n (n - pcn s n) (pcn s n) s
/-- those that go on with the opponent k -/
def OnK (s k : Nat) : List (List Nat) := if !s.testBit k && may (pcn s n) k then (On may n (wth s k)).map (k :: ·) else []
variable {may n}
theorem On_len (s : Nat) : (On may n s).length = Rn may n s := outs_len ..
theorem OnK_len (s k : Nat) : (OnK may n s k).length = addK may n s k := by
  unfold OnK addK
  split
  · rw [List.length_map, On_len]
  · rfl
theorem On_full {s : Nat} (h : pcn s n = n) : On may n s = [[]] := by
  unfold On; rw [h, Nat.sub_self]; rfl
theorem flatMap_congr {α : Type} {g h : Nat → List α} : ∀ {n : Nat}, (∀ k, k < n → g k = h k) → (List.range n).flatMap g = (List.range n).flatMap h
  | 0, _ => rfl
  | n + 1, e => by
    rw [List.range_succ, List.flatMap_append, List.flatMap_append, flatMap_congr (fun k hk => e k (by omega)), List.flatMap_singleton, List.flatMap_singleton, e n (by omega)]
theorem On_step {s : Nat} (h : pcn s n < n) : On may n s = (List.range n).flatMap (OnK may n s) := by
  obtain ⟨f, hf⟩ : ∃ f, n - pcn s n = f + 1 := ⟨n - pcn s n - 1, by omega⟩
  unfold On
  rw [hf, outs]
  refine flatMap_congr fun k hk => ?_
  unfold OnK On
  cases hb : s.testBit k
  · rw [pcn_wth hb, if_pos hk, show n - (pcn s n + 1) = f by omega]
  · rfl
theorem OnK_sum (s k : Nat) : sumB (fun i => (OnK may n s i).length) k = sumB (addK may n s) k := sumB_congr fun i _ => OnK_len s i
theorem On_get {s j k : Nat} (h : pcn s n < n) (hj : j < n) (hb : s.testBit j = false) (hm : may (pcn s n) j = true) (h1 : sumB (addK may n s) j ≤ k) (h2 : k < sumB (addK may n s) (j + 1)) :
    (On may n s)[k]? = ((On may n (wth s j))[k - sumB (addK may n s) j]?).map (j :: ·) := by
  rw [On_step h, flatMap_get _ hj (by rw [OnK_sum]; exact h1) (by rw [OnK_sum]; exact h2), OnK_sum]
  have : OnK may n s j = (On may n (wth s j)).map (j :: ·) := by unfold OnK; rw [hb, hm]; rfl
  rw [this, List.getElem?_map]
/-- a list that goes on from a set -/
def okL (may : Nat → Nat → Bool) (n : Nat) : Nat → Nat → List Nat → Bool
  | _, _, [] => true
  | i, s, k :: l => (decide (k < n) && (!s.testBit k && may i k)) && okL may n (i + 1) (wth s k) l
theorem mem_outs : ∀ {f i s : Nat} {x : List Nat}, x ∈ outs may n f i s ↔ x.length = f ∧ okL may n i s x = true
  | 0, i, s, x => by
    rw [outs, List.mem_singleton]
    constructor
    · rintro rfl; exact ⟨rfl, rfl⟩
    · intro h; exact List.eq_nil_of_length_eq_zero h.1
  | f + 1, i, s, x => by
    rw [outs, List.mem_flatMap]
    constructor
    · rintro ⟨k, hk, hx⟩
      rw [List.mem_range] at hk
      split at hx
      · next hb =>
        rw [List.mem_map] at hx
        obtain ⟨y, hy, rfl⟩ := hx
        have := mem_outs.1 hy
        exact ⟨by rw [List.length_cons, this.1], by rw [okL, decide_eq_true hk, hb, this.2]; rfl⟩
      · exact absurd hx (List.not_mem_nil)
    · rintro ⟨h1, h2⟩
      cases x with
      | nil => simp at h1
      | cons k l =>
        rw [okL, Bool.and_eq_true, Bool.and_eq_true, decide_eq_true_eq] at h2
        refine ⟨k, List.mem_range.2 h2.1.1, ?_⟩
        rw [if_pos h2.1.2, List.mem_map]
        exact ⟨l, mem_outs.2 ⟨by simpa using h1, h2.2⟩, rfl⟩
/-- the order of lists -/
def ltL : List Nat → List Nat → Prop
  | a :: l, b :: m => a < b ∨ (a = b ∧ ltL l m)
  | _, _ => False
theorem ltL_irrefl : ∀ l, ¬ ltL l l
  | [], h => h
  | _ :: l, h => h.elim (fun h => absurd h (Nat.lt_irrefl _)) fun h => ltL_irrefl l h.2
theorem outs_sorted : ∀ f i s, (outs may n f i s).Pairwise ltL
  | 0, _, _ => List.pairwise_singleton _ _
  | f + 1, i, s => by
    rw [outs, List.pairwise_flatMap]
    refine ⟨fun k _ => ?_, ?_⟩
    · split
      · rw [List.pairwise_map]
        exact (outs_sorted f (i + 1) (wth s k)).imp fun h => Or.inr ⟨rfl, h⟩
      · exact List.Pairwise.nil
    · refine List.pairwise_lt_range.imp fun {a b} hab x hx y hy => ?_
      split at hx
      · split at hy
        · rw [List.mem_map] at hx hy
          obtain ⟨x', _, rfl⟩ := hx
          obtain ⟨y', _, rfl⟩ := hy
          exact Or.inl hab
        · exact absurd hy List.not_mem_nil
      · exact absurd hx List.not_mem_nil
theorem sorted_get {l : List (List Nat)} (h : l.Pairwise ltL) {i j : Nat} {x y : List Nat} (hx : l[i]? = some x) (hy : l[j]? = some y) : (x = y ↔ i = j) ∧ (i < j → ltL x y) := by
  obtain ⟨hi, rfl⟩ := List.getElem?_eq_some_iff.1 hx
  obtain ⟨hj, rfl⟩ := List.getElem?_eq_some_iff.1 hy
  have key : ∀ {a b : Nat} (ha : a < l.length) (hb : b < l.length), a < b → ltL l[a] l[b] := fun ha hb hab => List.pairwise_iff_getElem.1 h _ _ ha hb hab
  refine ⟨⟨fun e => ?_, fun e => by subst e; rfl⟩, fun e => key hi hj e⟩
  rcases Nat.lt_trichotomy i j with h1 | h1 | h1
  · exact absurd (e ▸ key hi hj h1) (ltL_irrefl _)
  · exact h1
  · exact absurd (e ▸ key hj hi h1) (ltL_irrefl _)
end
end Go.Proofs.Ytbkgkgigcohbpaa
