/- Plain mathematics of draws: the numbers of the ways, set by set. No program here. -/
import Derived.Test.YtbkgkgigcohbpaaM1
namespace Go.Proofs.Ytbkgkgigcohbpaa
theorem pcn_succ_lt {s n : Nat} (h : s < 2 ^ n) : s.testBit n = false := Nat.testBit_lt_two_pow h
theorem pcn_ext {s n : Nat} (h : s < 2 ^ n) : ∀ d, pcn s (n + d) = pcn s n
  | 0 => rfl
  | d + 1 => by
    have h2 : s < 2 ^ (n + d) := Nat.lt_of_lt_of_le h (Nat.pow_le_pow_right (by omega) (by omega))
    rw [← Nat.add_assoc, pcn, pcn_ext h d, Nat.testBit_lt_two_pow h2]; simp
theorem pcn_16 {s n : Nat} (h : s < 2 ^ n) (hn : n ≤ 16) : pcn s 16 = pcn s n := by
  have := pcn_ext h (16 - n)
  rwa [show n + (16 - n) = 16 by omega] at this
theorem pcn_all {s : Nat} : ∀ {n : Nat}, pcn s n = n → ∀ j, j < n → s.testBit j = true
  | 0, _, _, h => absurd h (by omega)
  | n + 1, e, j, h => by
    have hl := pcn_le s n
    rw [pcn] at e
    have hb : s.testBit n = true := by
      cases hb : s.testBit n
      · rw [hb] at e; simp at e; omega
      · rfl
    rw [hb] at e
    simp at e
    rcases Nat.lt_or_ge j n with h1 | h1
    · exact pcn_all e j h1
    · rw [show j = n by omega]; exact hb
theorem pcn_full (n : Nat) : ∀ m, m ≤ n → pcn (2 ^ n - 1) m = m
  | 0, _ => rfl
  | m + 1, h => by
    rw [pcn, pcn_full n m (by omega), Nat.testBit_two_pow_sub_one, decide_eq_true (show m < n by omega), if_pos rfl]
theorem pcn_lt {s n F : Nat} (hF : 2 ^ n = F + 1) (h : s < F) : pcn s n < n := by
  rcases Nat.lt_or_ge (pcn s n) n with h1 | h1
  · exact h1
  · have e : pcn s n = n := Nat.le_antisymm (pcn_le s n) h1
    have hs : s = 2 ^ n - 1 := by
      apply Nat.eq_of_testBit_eq
      intro j
      rw [Nat.testBit_two_pow_sub_one]
      rcases Nat.lt_or_ge j n with h2 | h2
      · rw [pcn_all e j h2, decide_eq_true h2]
      · rw [Nat.testBit_lt_two_pow (Nat.lt_of_lt_of_le (show s < 2 ^ n by omega) (Nat.pow_le_pow_right (by omega) h2)), decide_eq_false (by omega)]
    omega
theorem and_pow (s k : Nat) : s &&& 2 ^ k = if s.testBit k then 2 ^ k else 0 := by
  apply Nat.eq_of_testBit_eq
  intro j
  rw [Nat.testBit_and, Nat.testBit_two_pow]
  by_cases e : k = j
  · subst e
    cases s.testBit k <;> simp
  · rw [decide_eq_false e, Bool.and_false]
    split
    · rw [Nat.testBit_two_pow, decide_eq_false e]
    · rw [Nat.zero_testBit]
section
variable (may : Nat → Nat → Bool) (n : Nat)
/-- the ways to go on from a set -/
def Rn (s : Nat) : Nat := rest may n (n - pcn s n) (pcn s n) s
/-- what the opponent k adds -/
def addK (s k : Nat) : Nat := if !s.testBit k && may (pcn s n) k then Rn may n (wth s k) else 0
variable {may n}
theorem Rn_full {F : Nat} (hF : 2 ^ n = F + 1) : Rn may n F = 1 := by
  unfold Rn
  have : pcn F n = n := by have := pcn_full n n (Nat.le_refl _); rwa [show 2 ^ n - 1 = F by omega] at this
  rw [this, Nat.sub_self, rest]
theorem Rn_step {s F : Nat} (hF : 2 ^ n = F + 1) (h : s < F) : Rn may n s = sumB (addK may n s) n := by
  have hl := pcn_lt hF h
  obtain ⟨f, hf⟩ : ∃ f, n - pcn s n = f + 1 := ⟨n - pcn s n - 1, by omega⟩
  unfold Rn
  rw [hf, rest]
  refine sumB_congr fun k hk => ?_
  unfold addK
  by_cases hb : s.testBit k = true
  · rw [hb]; simp
  · have hb : s.testBit k = false := by simpa using hb
    unfold Rn
    rw [pcn_wth hb, if_pos hk, show n - (pcn s n + 1) = f by omega]
theorem fct_16 : fct 16 = 20922789888000 := by decide
theorem Rn_le (s : Nat) (hn : n ≤ 16) : Rn may n s ≤ 20922789888000 := by
  unfold Rn
  have := pcn_le s n
  exact fct_16 ▸ Nat.le_trans (rest_le may n _ _ _ (by omega)) (fct_mono (by omega))
theorem part_le {s F k : Nat} (hF : 2 ^ n = F + 1) (h : s < F) (hn : n ≤ 16) (hk : k ≤ n) : sumB (addK may n s) k ≤ 20922789888000 :=
  Nat.le_trans (sumB_mono hk) (Rn_step (may := may) hF h ▸ Rn_le s hn)
theorem addK_yes {s k : Nat} (h1 : s.testBit k = false) (h2 : may (pcn s n) k = true) : addK may n s k = Rn may n (wth s k) := by
  unfold addK; rw [h1, h2]; rfl
theorem addK_in {s k : Nat} (h1 : s.testBit k = true) : addK may n s k = 0 := by
  unfold addK; rw [h1]; rfl
theorem addK_no {s k : Nat} (h2 : may (pcn s n) k = false) : addK may n s k = 0 := by
  unfold addK; rw [h2, Bool.and_false]; rfl
theorem wth_gt {s k : Nat} (h1 : s.testBit k = false) : s < wth s k := by
  rw [wth_add h1]; have := Nat.two_pow_pos k; omega
end
end Go.Proofs.Ytbkgkgigcohbpaa
