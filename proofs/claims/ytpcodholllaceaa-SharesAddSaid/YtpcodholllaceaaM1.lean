/- Plain mathematics: binomial numbers, and the little theorem of Fermat. No program here. -/
namespace Go.Proofs.Ytpcodholllaceaa
/-- binomial numbers -/
def bin : Nat → Nat → Nat
  | _, 0 => 1
  | 0, _ + 1 => 0
  | n + 1, k + 1 => bin n k + bin n (k + 1)
theorem bin_zero (n : Nat) : bin n 0 = 1 := by cases n <;> rfl
theorem bin_gt : ∀ n k, n < k → bin n k = 0
  | 0, k + 1, _ => rfl
  | n + 1, k + 1, h => by rw [bin, bin_gt n k (by omega), bin_gt n (k + 1) (by omega)]
theorem bin_self : ∀ n, bin n n = 1
  | 0 => rfl
  | n + 1 => by rw [bin, bin_self n, bin_gt n (n + 1) (by omega)]
theorem bin_mul : ∀ n k, (k + 1) * bin (n + 1) (k + 1) = (n + 1) * bin n k
  | 0, 0 => rfl
  | 0, k + 1 => by
    have e : bin (0 + 1) (k + 1 + 1) = bin 0 (k + 1) + bin 0 (k + 1 + 1) := rfl
    rw [e, bin_gt 0 (k + 1) (by omega), bin_gt 0 (k + 1 + 1) (by omega)]
    simp
  | n + 1, 0 => by
    have h := bin_mul n 0
    have e : bin (n + 1 + 1) (0 + 1) = bin (n + 1) 0 + bin (n + 1) (0 + 1) := rfl
    rw [e, bin_zero]
    rw [bin_zero] at h
    omega
  | n + 1, k + 1 => by
    have h1 := bin_mul n k
    have h2 := bin_mul n (k + 1)
    have e : bin (n + 1) (k + 1) = bin n k + bin n (k + 1) := rfl
    have e2 : bin (n + 1 + 1) (k + 1 + 1) = bin (n + 1) (k + 1) + bin (n + 1) (k + 1 + 1) := rfl
    rw [e2]
    generalize bin (n + 1) (k + 1 + 1) = u at *
    generalize bin (n + 1) (k + 1) = v at *
    generalize bin n k = s at *
    generalize bin n (k + 1) = t at *
    subst e
    grind
/-- the sum of f over 0 .. n - 1 -/
def sumTo (f : Nat → Nat) : Nat → Nat
  | 0 => 0
  | n + 1 => sumTo f n + f n
theorem sumTo_add (f g : Nat → Nat) (n : Nat) : sumTo (fun i => f i + g i) n = sumTo f n + sumTo g n := by
  induction n with
  | zero => rfl
  | succ n ih => simp only [sumTo, ih]; omega
theorem sumTo_mul (f : Nat → Nat) (c n : Nat) : sumTo (fun i => c * f i) n = c * sumTo f n := by
  induction n with
  | zero => rfl
  | succ n ih => simp only [sumTo, ih, Nat.mul_add]
theorem sumTo_head (f : Nat → Nat) (n : Nat) : sumTo f (n + 1) = f 0 + sumTo (fun i => f (i + 1)) n := by
  induction n with
  | zero => simp [sumTo]
  | succ n ih => rw [sumTo, ih]; simp only [sumTo]; omega
theorem sumTo_congr {f g : Nat → Nat} {n : Nat} (h : ∀ i, i < n → f i = g i) : sumTo f n = sumTo g n := by
  induction n with
  | zero => rfl
  | succ n ih => rw [sumTo, sumTo, ih (fun i hi => h i (by omega)), h n (by omega)]
theorem binomial (x n : Nat) : (x + 1) ^ n = sumTo (fun k => bin n k * x ^ k) (n + 1) := by
  induction n with
  | zero => simp [sumTo, bin]
  | succ n ih =>
    rw [Nat.pow_succ, ih, sumTo_head (fun k => bin (n + 1) k * x ^ k), bin_zero]
    have e : sumTo (fun i => bin (n + 1) (i + 1) * x ^ (i + 1)) (n + 1) = x * sumTo (fun k => bin n k * x ^ k) (n + 1) + sumTo (fun i => bin n (i + 1) * x ^ (i + 1)) (n + 1) := by
      rw [← sumTo_mul, ← sumTo_add]
      refine sumTo_congr fun i _ => ?_
      have : bin (n + 1) (i + 1) = bin n i + bin n (i + 1) := rfl
      rw [this, Nat.add_mul, Nat.pow_succ]
      congr 1
      rw [Nat.mul_comm (x ^ i) x, Nat.mul_left_comm]
    rw [e]
    have h0 := sumTo_head (fun k => bin n k * x ^ k) n
    have h1 : sumTo (fun i => bin n (i + 1) * x ^ (i + 1)) (n + 1) = sumTo (fun i => bin n (i + 1) * x ^ (i + 1)) n := by
      rw [sumTo, bin_gt n (n + 1) (by omega)]; simp
    rw [h1, Nat.mul_add, Nat.mul_one, Nat.mul_comm _ x]
    simp only [bin_zero] at h0
    omega
def Prm (p : Nat) : Prop := 2 ≤ p ∧ ∀ d, d ∣ p → d = 1 ∨ d = p
theorem Prm.coprime {p a : Nat} (h : Prm p) (ha : ¬ p ∣ a) : Nat.gcd p a = 1 := by
  rcases h.2 _ (Nat.gcd_dvd_left p a) with e | e
  · exact e
  · exact absurd (e ▸ Nat.gcd_dvd_right p a) ha
theorem Prm.dvd_mul {p a b : Nat} (h : Prm p) (hd : p ∣ a * b) : p ∣ a ∨ p ∣ b := by
  by_cases ha : p ∣ a
  · exact .inl ha
  · exact .inr (Nat.Coprime.dvd_of_dvd_mul_left (h.coprime ha) hd)
theorem Prm.dvd_bin {p k : Nat} (h : Prm p) (h0 : 0 < k) (hk : k < p) : p ∣ bin p k := by
  obtain ⟨n, rfl⟩ : ∃ n, p = n + 1 := ⟨p - 1, by have := h.1; omega⟩
  obtain ⟨j, rfl⟩ : ∃ j, k = j + 1 := ⟨k - 1, by omega⟩
  have e := bin_mul n j
  rcases h.dvd_mul (a := j + 1) (b := bin (n + 1) (j + 1)) (e ▸ Nat.dvd_mul_right _ _) with hd | hd
  · exact absurd (Nat.le_of_dvd (by omega) hd) (by omega)
  · exact hd
theorem dvd_sumTo {p : Nat} {f : Nat → Nat} {n : Nat} (h : ∀ i, i < n → p ∣ f i) : p ∣ sumTo f n := by
  induction n with
  | zero => exact Nat.dvd_zero _
  | succ n ih => exact Nat.dvd_add (ih fun i hi => h i (by omega)) (h n (by omega))
theorem Prm.fermat {p : Nat} (h : Prm p) (a : Nat) : a ^ p % p = a % p := by
  have hp := h.1
  induction a with
  | zero => rw [Nat.zero_pow (by omega)]
  | succ a ih =>
    obtain ⟨n, rfl⟩ : ∃ n, p = n + 1 := ⟨p - 1, by omega⟩
    rw [binomial, sumTo, sumTo_head, bin_self, bin_zero]
    have hd : (n + 1) ∣ sumTo (fun i => bin (n + 1) (i + 1) * a ^ (i + 1)) n := dvd_sumTo fun i hi => Nat.dvd_trans (h.dvd_bin (by omega) (by omega)) (Nat.dvd_mul_right _ _)
    obtain ⟨c, hc⟩ := hd
    rw [hc, Nat.one_mul, Nat.pow_zero, Nat.one_mul]
    rw [show 1 + (n + 1) * c + a ^ (n + 1) = (1 + a ^ (n + 1)) + (n + 1) * c by omega, Nat.add_mul_mod_self_left, Nat.add_mod, ih, ← Nat.add_mod, Nat.add_comm 1 a]
theorem Prm.fermat1 {p a : Nat} (h : Prm p) (ha : ¬ p ∣ a) : a ^ (p - 1) % p = 1 := by
  have hp := h.1
  have e := h.fermat a
  rw [show p = (p - 1) + 1 by omega, Nat.pow_succ, ← show p = (p - 1) + 1 by omega] at e
  -- p ∣ a^(p-1) * a - a
  have h1 : 1 ≤ a ^ (p - 1) := Nat.pow_pos (Nat.pos_of_ne_zero fun e => ha (e ▸ Nat.dvd_zero _))
  have hd : p ∣ a * (a ^ (p - 1) - 1) := by
    rw [Nat.mul_sub, Nat.mul_one, Nat.mul_comm]
    refine Nat.dvd_of_mod_eq_zero ?_
    rw [Nat.sub_mod_eq_zero_of_mod_eq e]
  rcases h.dvd_mul hd with h2 | h2
  · exact absurd h2 ha
  · obtain ⟨c, hc⟩ := h2
    rw [show a ^ (p - 1) = 1 + p * c by omega, Nat.add_mul_mod_self_left]
    exact Nat.mod_eq_of_lt (by omega)
end Go.Proofs.Ytpcodholllaceaa
