/- Plain mathematics of draws: the ways to go on from a set of clubs. No program here. -/
namespace Go.Proofs.Ytbkgkgigcohbpaa

/-- the set with k -/
def wth (s k : Nat) : Nat := s ||| 2 ^ k
/-- how many of the first n are in the set -/
def pcn (s : Nat) : Nat → Nat
  | 0 => 0
  | n + 1 => pcn s n + (if s.testBit n then 1 else 0)
def sumB (f : Nat → Nat) : Nat → Nat
  | 0 => 0
  | k + 1 => sumB f k + f k
def fct : Nat → Nat
  | 0 => 1
  | n + 1 => (n + 1) * fct n
theorem sumB_congr {f g : Nat → Nat} : ∀ {n : Nat}, (∀ k, k < n → f k = g k) → sumB f n = sumB g n
  | 0, _ => rfl
  | n + 1, h => by rw [sumB, sumB, sumB_congr (fun k hk => h k (by omega)), h n (by omega)]
theorem sumB_add (f g : Nat → Nat) : ∀ n, sumB (fun k => f k + g k) n = sumB f n + sumB g n
  | 0 => rfl
  | n + 1 => by rw [sumB, sumB, sumB, sumB_add f g n]; omega
theorem sumB_zero : ∀ n, sumB (fun _ => 0) n = 0
  | 0 => rfl
  | n + 1 => by rw [sumB, sumB_zero n]
theorem sumB_mul (f : Nat → Nat) (c : Nat) : ∀ n, sumB (fun k => c * f k) n = c * sumB f n
  | 0 => by simp [sumB]
  | n + 1 => by rw [sumB, sumB, sumB_mul f c n, Nat.mul_add]
theorem sumB_le {f g : Nat → Nat} : ∀ {n : Nat}, (∀ k, k < n → f k ≤ g k) → sumB f n ≤ sumB g n
  | 0, _ => Nat.le_refl _
  | n + 1, h => by rw [sumB, sumB]; exact Nat.add_le_add (sumB_le fun k hk => h k (by omega)) (h n (by omega))
theorem sumB_mono {f : Nat → Nat} {m n : Nat} (h : m ≤ n) : sumB f m ≤ sumB f n := by
  induction n with
  | zero => rw [show m = 0 by omega]; exact Nat.le_refl _
  | succ n ih =>
    rcases Nat.lt_or_ge m (n + 1) with hm | hm
    · have := ih (by omega); rw [sumB]; omega
    · rw [show m = n + 1 by omega]; exact Nat.le_refl _
theorem sumB_term {f : Nat → Nat} {k n : Nat} (h : k < n) : f k ≤ sumB f n := by
  have := sumB_mono (f := f) (show k + 1 ≤ n by omega)
  rw [sumB] at this
  omega
theorem wth_bit (s k j : Nat) : (wth s k).testBit j = (s.testBit j || decide (k = j)) := by
  unfold wth; rw [Nat.testBit_or, Nat.testBit_two_pow]
theorem wth_lt {s k n : Nat} (hs : s < 2 ^ n) (hk : k < n) : wth s k < 2 ^ n := by
  unfold wth
  exact Nat.or_lt_two_pow hs (Nat.pow_lt_pow_right (by omega) hk)
theorem wth_add {s k : Nat} (h : s.testBit k = false) : wth s k = s + 2 ^ k := by
  unfold wth
  have := Nat.two_pow_add_eq_or_of_lt (i := k) (b := s % 2 ^ k) (Nat.mod_lt _ (Nat.two_pow_pos k)) (s / 2 ^ k)
  have e : s = 2 ^ k * (s / 2 ^ k) + s % 2 ^ k := (Nat.div_add_mod s (2 ^ k)).symm
  have h2 : s / 2 ^ k % 2 = 0 := by
    rw [Nat.testBit_eq_decide_div_mod_eq] at h
    have := of_decide_eq_false h
    omega
  apply Nat.eq_of_testBit_eq
  intro j
  rw [Nat.testBit_or, Nat.testBit_two_pow, Nat.add_comm s]
  by_cases hj : j = k
  · subst hj
    rw [Nat.testBit_two_pow_add_eq, h]
    simp
  · have hd : decide (k = j) = false := decide_eq_false (fun e => hj e.symm)
    rw [hd, Bool.or_false]
    rcases Nat.lt_or_ge j k with hlt | hge
    · rw [Nat.testBit_two_pow_add_gt hlt]
    · have hgt : k < j := by omega
      rw [Nat.testBit_eq_decide_div_mod_eq, Nat.testBit_eq_decide_div_mod_eq]
      obtain ⟨d, rfl⟩ : ∃ d, j = k + 1 + d := ⟨j - (k + 1), by omega⟩
      have p1 : 2 ^ (k + 1 + d) = 2 ^ k * (2 * 2 ^ d) := by rw [Nat.pow_add, Nat.pow_add]; simp [Nat.mul_assoc]
      simp only [p1, ← Nat.div_div_eq_div_mul]
      rw [Nat.add_div_left _ (Nat.two_pow_pos k), show (s / 2 ^ k).succ / 2 = s / 2 ^ k / 2 by omega]
theorem pcn_wth {s k : Nat} (h : s.testBit k = false) : ∀ n, pcn (wth s k) n = pcn s n + (if k < n then 1 else 0)
  | 0 => by simp [pcn]
  | n + 1 => by
    rw [pcn, pcn, pcn_wth h n, wth_bit]
    by_cases e : k = n
    · subst e
      rw [h]; simp
    · have hd : decide (k = n) = false := decide_eq_false e
      rw [hd, Bool.or_false]
      by_cases hlt : k < n
      · rw [if_pos hlt, if_pos (show k < n + 1 by omega)]; omega
      · rw [if_neg hlt, if_neg (show ¬ k < n + 1 by omega)]; omega
theorem pcn_le (s : Nat) : ∀ n, pcn s n ≤ n
  | 0 => Nat.le_refl _
  | n + 1 => by have := pcn_le s n; rw [pcn]; split <;> omega
theorem pcn_zero : ∀ n, pcn 0 n = 0
  | 0 => rfl
  | n + 1 => by rw [pcn, pcn_zero n]; simp
/-- those that are free -/
theorem free_sum (s : Nat) : ∀ n, sumB (fun k => if !s.testBit k then 1 else 0) n + pcn s n = n
  | 0 => rfl
  | n + 1 => by
    have := free_sum s n
    rw [sumB, pcn]
    have e : (if (!s.testBit n) = true then 1 else 0) + (if s.testBit n = true then 1 else 0) = 1 := by cases s.testBit n <;> rfl
    omega
section
variable (may : Nat → Nat → Bool) (n : Nat)
/-- the ways to go on: f clubs are left, club i is next, the opponents of s are taken -/
def outs : Nat → Nat → Nat → List (List Nat)
  | 0, _, _ => [[]]
  | f + 1, i, s => (List.range n).flatMap fun k => if !s.testBit k && may i k then (outs f (i + 1) (wth s k)).map (k :: ·) else []
/-- how many ways -/
def rest : Nat → Nat → Nat → Nat
  | 0, _, _ => 1
  | f + 1, i, s => sumB (fun k => if !s.testBit k && may i k then rest f (i + 1) (wth s k) else 0) n
theorem flatMap_len {α : Type} (g : Nat → List α) : ∀ n, ((List.range n).flatMap g).length = sumB (fun k => (g k).length) n
  | 0 => rfl
  | n + 1 => by rw [List.range_succ, List.flatMap_append, List.length_append, flatMap_len g n, sumB]; simp
theorem outs_len : ∀ f i s, (outs may n f i s).length = rest may n f i s
  | 0, _, _ => rfl
  | f + 1, i, s => by
    rw [outs, rest, flatMap_len]
    refine sumB_congr fun k _ => ?_
    split
    · rw [List.length_map, outs_len]
    · rfl
/-- at most f! ways -/
theorem rest_le : ∀ f i s, pcn s n + f = n → rest may n f i s ≤ fct f
  | 0, _, _, _ => Nat.le_refl _
  | f + 1, i, s, h => by
    rw [rest]
    have hf := free_sum s n
    have h1 : sumB (fun k => if !s.testBit k && may i k then rest may n f (i + 1) (wth s k) else 0) n ≤ sumB (fun k => fct f * (if !s.testBit k then 1 else 0)) n := by
      refine sumB_le fun k hk => ?_
      by_cases hb : s.testBit k = true
      · rw [hb]; simp
      · have hb : s.testBit k = false := by simpa using hb
        rw [hb]
        by_cases hm : may i k = true
        · rw [hm]
          simp only [Bool.not_false, Bool.and_self, if_pos, Nat.mul_one]
          exact rest_le f (i + 1) (wth s k) (by rw [pcn_wth hb, if_pos hk]; omega)
        · have hm : may i k = false := by simpa using hm
          rw [hm]; simp
    rw [sumB_mul, show sumB (fun k => if !s.testBit k then 1 else 0) n = f + 1 by omega] at h1
    rw [fct, Nat.mul_comm]
    exact h1
/-- all pairs permitted: f! ways -/
theorem rest_all (hm : ∀ i k, may i k = true) : ∀ f i s, pcn s n + f = n → rest may n f i s = fct f
  | 0, _, _, _ => rfl
  | f + 1, i, s, h => by
    rw [rest]
    have hf := free_sum s n
    have h1 : sumB (fun k => if !s.testBit k && may i k then rest may n f (i + 1) (wth s k) else 0) n = sumB (fun k => fct f * (if !s.testBit k then 1 else 0)) n := by
      refine sumB_congr fun k hk => ?_
      rw [hm, Bool.and_true]
      by_cases hb : s.testBit k = true
      · rw [hb]; simp
      · have hb : s.testBit k = false := by simpa using hb
        rw [hb]
        simp only [Bool.not_false, if_pos, Nat.mul_one]
        exact rest_all hm f (i + 1) (wth s k) (by rw [pcn_wth hb, if_pos hk]; omega)
    rw [h1, sumB_mul, show sumB (fun k => if !s.testBit k then 1 else 0) n = f + 1 by omega, fct, Nat.mul_comm]
theorem fct_pos : ∀ f, 0 < fct f
  | 0 => Nat.one_pos
  | f + 1 => Nat.mul_pos (by omega) (fct_pos f)
theorem fct_mono {a b : Nat} (h : a ≤ b) : fct a ≤ fct b := by
  induction b with
  | zero => rw [show a = 0 by omega]; exact Nat.le_refl _
  | succ b ih =>
    rcases Nat.lt_or_ge a (b + 1) with hm | hm
    · have := ih (by omega)
      rw [fct]
      exact Nat.le_trans this (Nat.le_mul_of_pos_left _ (by omega))
    · rw [show a = b + 1 by omega]; exact Nat.le_refl _
end
end Go.Proofs.Ytbkgkgigcohbpaa
