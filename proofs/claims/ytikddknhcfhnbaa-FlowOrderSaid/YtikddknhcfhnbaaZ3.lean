/- Networks with other capacities; networks with the arcs in another order. -/
import Derived.Test.YtikddknhcfhnbaaZ2
namespace Go.Proofs.Ytikddknhcfhnbaa
/-- the same arcs with other capacities -/
def capN (n : NetD) (F : Nat → Int) : NetD := ⟨n.vs, (List.range n.arcs.length).map fun i => ⟨(nthA n.arcs i).src, (nthA n.arcs i).dst, F i⟩⟩
def capOf (n : NetD) (i : Nat) : Int := (nthA n.arcs i).cap
section
variable {n : NetD} {F G : Nat → Int} {V V' : Nat} {S : Nat → Bool}
theorem capN_len : (capN n F).arcs.length = n.arcs.length := by simp [capN]
theorem capN_at {i : Nat} (h : i < n.arcs.length) : nthA (capN n F).arcs i = ⟨(nthA n.arcs i).src, (nthA n.arcs i).dst, F i⟩ := by
  rw [nthA_get (by rw [capN_len]; exact h)]
  simp [capN]
theorem chk_parts (h : chkN n = true) : sizeN n = true ∧ ∀ a ∈ n.arcs, okA n.vs a = true := by
  unfold chkN at h
  rw [Bool.and_eq_true, List.all_eq_true] at h
  exact h
theorem chk_of (h : sizeN n = true) (ha : ∀ a ∈ n.arcs, okA n.vs a = true) : chkN n = true := by
  unfold chkN
  rw [Bool.and_eq_true, List.all_eq_true]
  exact ⟨h, ha⟩
theorem capN_chk (h : chkN n = true) (hF : ∀ i, i < n.arcs.length → 0 ≤ F i ∧ F i ≤ 1073741824) : chkN (capN n F) = true := by
  obtain ⟨h1, h2⟩ := chk_parts h
  refine chk_of ?_ fun a ha => ?_
  · unfold sizeN at h1 ⊢
    rw [capN_len]; exact h1
  · obtain ⟨i, hi, rfl⟩ := List.mem_map.1 ha
    have hi := List.mem_range.1 hi
    have h3 := h2 (nthA n.arcs i) (by rw [nthA_get hi]; exact List.getElem_mem hi)
    rw [okA_iff] at h3 ⊢
    have := hF i hi
    exact ⟨h3.1, h3.2.1, h3.2.2.1, h3.2.2.2.1, h3.2.2.2.2.1, this⟩
/-- an arc that leaves a side -/
def crossB (n : NetD) (S : Nat → Bool) (i : Nat) : Bool := S (nthA n.arcs i).src.toNat && !S (nthA n.arcs i).dst.toNat
def sumC (n : NetD) (S : Nat → Bool) (F : Nat → Int) : Nat → Int
  | 0 => 0
  | k + 1 => sumC n S F k + if crossB n S k = true then F k else 0
theorem capS_sumC : ∀ {k : Nat}, k ≤ n.arcs.length → capS (capN n F) S k = sumC n S F k
  | 0, _ => rfl
  | k + 1, hk => by
    unfold capS sumC
    rw [capS_sumC (by omega), capN_at (by omega)]; rfl
theorem capS_own : ∀ k, capS n S k = sumC n S (capOf n) k
  | 0 => rfl
  | k + 1 => by unfold capS sumC; rw [capS_own k]; rfl
theorem sumC_mono : ∀ {k : Nat}, (∀ i, i < k → F i ≤ G i) → sumC n S F k ≤ sumC n S G k
  | 0, _ => Int.le_refl _
  | k + 1, h => by
    have h1 := sumC_mono (k := k) fun i hi => h i (by omega)
    have h2 := h k (by omega)
    unfold sumC
    split <;> omega
theorem sumC_congr : ∀ {k : Nat}, (∀ i, i < k → crossB n S i = true → F i = G i) → sumC n S F k = sumC n S G k
  | 0, _ => rfl
  | k + 1, h => by
    unfold sumC
    rw [sumC_congr fun i hi => h i (by omega)]
    by_cases e : crossB n S k = true
    · rw [if_pos e, if_pos e, h k (by omega) e]
    · rw [if_neg e, if_neg e]
theorem sumC_mul (c : Int) : ∀ k, sumC n S (fun i => c * F i) k = c * sumC n S F k
  | 0 => (Int.mul_zero c).symm
  | k + 1 => by
    unfold sumC
    rw [sumC_mul c k]
    split
    · rw [Int.mul_add]
    · rw [Int.add_zero, Int.add_zero]
/-- one capacity more -/
theorem sumC_one {j : Nat} {x : Int} (hx : 0 ≤ x) (hG : ∀ i, G i = if i = j then F i + x else F i) : ∀ k, sumC n S F k ≤ sumC n S G k ∧ sumC n S G k ≤ sumC n S F k + if j < k then x else 0
  | 0 => by simp [sumC]
  | k + 1 => by
    have h1 := sumC_one hx hG k
    have h2 := hG k
    unfold sumC
    by_cases e : k = j
    · rw [if_pos e] at h2
      rw [if_neg (show ¬ j < k by omega)] at h1
      rw [if_pos (show j < k + 1 by omega)]
      split <;> omega
    · rw [if_neg e] at h2
      by_cases q : j < k
      · rw [if_pos q] at h1; rw [if_pos (show j < k + 1 by omega)]; split <;> omega
      · rw [if_neg q] at h1; rw [if_neg (show ¬ j < k + 1 by omega)]; split <;> omega
theorem same_V (h : NOk n V) (h' : NOk (capN n F) V') : V' = V := by
  have h1 := h.vs
  have h2 := h'.vs
  have h3 : (capN n F).vs = n.vs := rfl
  omega
variable {fl sd fl' sd' : List Int} {val val' : Int}
theorem Best.grows (b : Best n V fl val sd) (hn : NOk n V) (b' : Best (capN n F) V' fl' val' sd') (hn' : NOk (capN n F) V') {j : Nat} {x : Int} (hj : j < n.arcs.length) (hx : 0 ≤ x) (hF : ∀ i, F i = if i = j then capOf n i + x else capOf n i) : val ≤ val' ∧ val' ≤ val + x := by
  obtain rfl := same_V hn hn'
  have h1 := b.stS hn
  have h2 := b'.stS hn'
  have h3 := b.low _ h2.1 h2.2
  have h4 := b'.low _ h1.1 h1.2
  have h5 := b.cEq
  have h6 := b'.cEq
  rw [capN_len, capS_sumC (Nat.le_refl _)] at h4 h6
  rw [capS_own] at h3 h5
  have q1 := (sumC_one (n := n) (S := setS sd') hx hF n.arcs.length).1
  have q2 := (sumC_one (n := n) (S := setS sd) hx hF n.arcs.length).2
  rw [if_pos hj] at q2
  omega
theorem Best.times (b : Best n V fl val sd) (hn : NOk n V) (b' : Best (capN n F) V' fl' val' sd') (hn' : NOk (capN n F) V') {c : Int} (hc : 0 ≤ c) (hF : ∀ i, i < n.arcs.length → F i = c * capOf n i) : val' = c * val := by
  obtain rfl := same_V hn hn'
  have h1 := b.stS hn
  have h2 := b'.stS hn'
  have h3 := b.low _ h2.1 h2.2
  have h4 := b'.low _ h1.1 h1.2
  have h5 := b.cEq
  have h6 := b'.cEq
  have hs : ∀ S, capS (capN n F) S (capN n F).arcs.length = c * capS n S n.arcs.length := fun S => by
    rw [capN_len, capS_sumC (Nat.le_refl _), capS_own, ← sumC_mul]
    exact sumC_congr fun i hi _ => hF i hi
  rw [hs] at h4 h6
  have q1 := Int.mul_le_mul_of_nonneg_left h3 hc
  rw [h5] at h4
  omega
theorem Best.saturates (b : Best n V fl val sd) (hn : NOk n V) (b' : Best (capN n F) V' fl' val' sd') (hn' : NOk (capN n F) V') {j : Nat} (hj : j < n.arcs.length) (hlt : nthI fl j < capOf n j) (hF : ∀ i, F i = if i = j then capOf n i + 1 else capOf n i) : val' = val := by
  have hg := b.grows hn b' hn' hj (by decide) hF
  obtain rfl := same_V hn hn'
  have h1 := b.stS hn
  have h4 := b'.low _ h1.1 h1.2
  rw [capN_len, capS_sumC (Nat.le_refl _)] at h4
  have h5 := b.cEq
  rw [capS_own] at h5
  have h6 : sumC n (setS sd) F n.arcs.length = sumC n (setS sd) (capOf n) n.arcs.length := sumC_congr fun i hi hc => by
    rw [hF i]
    by_cases e : i = j
    · subst e
      unfold crossB at hc
      rw [Bool.and_eq_true, Bool.not_eq_true'] at hc
      have := b.out i hi hc.1 hc.2
      unfold capOf at hlt
      omega
    · rw [if_neg e]
  omega
end
/-- what an arc adds to a side's capacity -/
def wS (S : Nat → Bool) (a : ArcD) : Int := if (S a.src.toNat && !S a.dst.toNat) = true then a.cap else 0
def sumL (S : Nat → Bool) : List ArcD → Int
  | [] => 0
  | a :: l => wS S a + sumL S l
theorem sumL_append (S : Nat → Bool) : ∀ l m : List ArcD, sumL S (l ++ m) = sumL S l + sumL S m
  | [], m => (Int.zero_add _).symm
  | a :: l, m => by
    show wS S a + sumL S (l ++ m) = wS S a + sumL S l + sumL S m
    rw [sumL_append S l m, Int.add_assoc]
theorem capS_take {n : NetD} {S : Nat → Bool} : ∀ {k : Nat}, k ≤ n.arcs.length → capS n S k = sumL S (n.arcs.take k)
  | 0, _ => by simp [capS, sumL]
  | k + 1, hk => by
    rw [List.take_succ_eq_append_getElem (by omega), sumL_append, ← capS_take (by omega), ← nthA_get (by omega)]
    show capS n S k + wS S (nthA n.arcs k) = capS n S k + (wS S (nthA n.arcs k) + 0)
    rw [Int.add_zero]
theorem capS_all {n : NetD} {S : Nat → Bool} : capS n S n.arcs.length = sumL S n.arcs := by
  rw [capS_take (Nat.le_refl _), List.take_length]
/-- the arcs turned by k + 1, arc k in two parts -/
def turnL (l : List ArcD) (k : Nat) (x : Int) : List ArcD :=
  ([⟨(nthA l k).src, (nthA l k).dst, (nthA l k).cap - x⟩] ++ l.drop (k + 1) ++ l.take k) ++ [⟨(nthA l k).src, (nthA l k).dst, x⟩]
theorem turn_len {l : List ArcD} {k : Nat} {x : Int} (hk : k < l.length) : (turnL l k x).length = l.length + 1 := by
  unfold turnL
  simp
  omega
theorem turn_mem {l : List ArcD} {k : Nat} {x : Int} {a : ArcD} (h : a ∈ turnL l k x) : a = ⟨(nthA l k).src, (nthA l k).dst, (nthA l k).cap - x⟩ ∨ a ∈ l ∨ a = ⟨(nthA l k).src, (nthA l k).dst, x⟩ := by
  unfold turnL at h
  rw [List.mem_append, List.mem_append, List.mem_append, List.mem_singleton, List.mem_singleton] at h
  rcases h with ((h | h) | h) | h
  · exact .inl h
  · exact .inr (.inl (List.mem_of_mem_drop h))
  · exact .inr (.inl (List.mem_of_mem_take h))
  · exact .inr (.inr h)
theorem turn_sum {l : List ArcD} {k : Nat} {x : Int} (S : Nat → Bool) (hk : k < l.length) : sumL S (turnL l k x) = sumL S l := by
  have e : l = l.take k ++ (nthA l k :: l.drop (k + 1)) := by
    rw [nthA_get hk, ← List.drop_eq_getElem_cons hk, List.take_append_drop]
  have h2 : sumL S l = sumL S (l.take k) + (wS S (nthA l k) + sumL S (l.drop (k + 1))) := by
    conv => lhs; rw [e]
    rw [sumL_append]; rfl
  have h3 : wS S ⟨(nthA l k).src, (nthA l k).dst, (nthA l k).cap - x⟩ + wS S ⟨(nthA l k).src, (nthA l k).dst, x⟩ = wS S (nthA l k) := by
    unfold wS
    dsimp only
    split <;> omega
  rw [h2, ← h3]
  unfold turnL
  rw [sumL_append, sumL_append, sumL_append]
  simp only [sumL]
  omega
section
variable {n : NetD} {V V' k : Nat} {x : Int}
theorem turn_chk (h : chkN n = true) (hk : k < n.arcs.length) (hx : 0 ≤ x) (hx2 : x ≤ (nthA n.arcs k).cap) (hl : n.arcs.length ≤ 4095) : chkN ⟨n.vs, turnL n.arcs k x⟩ = true := by
  obtain ⟨h1, h2⟩ := chk_parts h
  have h3 := h2 (nthA n.arcs k) (by rw [nthA_get hk]; exact List.getElem_mem hk)
  rw [okA_iff] at h3
  obtain ⟨g1, g2, g3, g4, g5, g6, g7⟩ := h3
  refine chk_of ?_ fun a ha => ?_
  · unfold sizeN at h1 ⊢
    rw [Bool.and_eq_true, Bool.and_eq_true] at h1 ⊢
    refine ⟨h1.1, h1.2.1, ?_⟩
    rw [decide_eq_true_eq, turn_len hk]; omega
  · rcases turn_mem ha with rfl | e | rfl
    · rw [okA_iff]; exact ⟨g1, g2, g3, g4, g5, by show 0 ≤ (nthA n.arcs k).cap - x; omega, by show (nthA n.arcs k).cap - x ≤ 1073741824; omega⟩
    · exact h2 a e
    · rw [okA_iff]; exact ⟨g1, g2, g3, g4, g5, hx, by show x ≤ 1073741824; omega⟩
variable {fl sd fl' sd' : List Int} {val val' : Int}
theorem Best.turned (b : Best n V fl val sd) (hn : NOk n V) (b' : Best ⟨n.vs, turnL n.arcs k x⟩ V' fl' val' sd') (hn' : NOk ⟨n.vs, turnL n.arcs k x⟩ V') (hk : k < n.arcs.length) : val = val' ∧ sd = sd' := by
  have h1 := hn.vs
  have h2 := hn'.vs
  have h3 : V' = V := by dsimp only at h2; omega
  subst h3
  refine b.same hn b' hn' fun S => ?_
  rw [capS_all, capS_all]
  exact (turn_sum S hk).symm
end
end Go.Proofs.Ytikddknhcfhnbaa
