/- Plain mathematics: powers modulo a number, and the test of Pocklington. No program here. -/
import Derived.Test.YtpcodholllaceaaM1
namespace Go.Proofs.Ytpcodholllaceaa
/- powers modulo m -/
theorem pow_mod_one {m b : Nat} (h : b % m = 1 % m) (k : Nat) : b ^ k % m = 1 % m := by
  rw [Nat.pow_mod, h, ← Nat.pow_mod, Nat.one_pow]
/-- two exponents with which a power is 1: their greatest common divisor is one, too -/
theorem pow_gcd_one {m a : Nat} : ∀ (i j : Nat), a ^ i % m = 1 % m → a ^ j % m = 1 % m → a ^ (Nat.gcd i j) % m = 1 % m := by
  intro i
  induction i using Nat.strongRecOn with
  | _ i ih =>
    intro j h1 h2
    by_cases h0 : i = 0
    · subst h0; rwa [Nat.gcd_zero_left]
    · rw [Nat.gcd_rec]
      refine ih (j % i) (Nat.mod_lt _ (by omega)) i ?_ h1
      have e : a ^ j % m = (a ^ (j % i)) % m := by
        conv => lhs; rw [← Nat.div_add_mod j i, Nat.pow_add, Nat.pow_mul, Nat.mul_mod, pow_mod_one h1 (j / i), ← Nat.mul_mod, Nat.one_mul]
      rw [← e, h2]
theorem dvd_pow1 (a : Nat) {k : Nat} (h : 0 < k) : a ∣ a ^ k := by
  obtain ⟨j, rfl⟩ : ∃ j, k = j + 1 := ⟨k - 1, by omega⟩
  exact ⟨a ^ j, by rw [Nat.pow_succ, Nat.mul_comm]⟩
/-- Pocklington: a prime q that is greater than the root shows that N is prime -/
theorem pocklington {N q c a : Nat} (hq : Prm q) (hN : N = q * c + 1) (hc : 0 < c) (hs : N < q * q) (h1 : a ^ (N - 1) % N = 1) (h2 : Nat.gcd (a ^ c % N + (N - 1)) N = 1) : Prm N := by
  have hq2 := hq.1
  have hqN : q < N := by rw [hN]; exact Nat.lt_succ_of_le (Nat.le_mul_of_pos_right _ hc)
  -- every prime divisor p of N is greater than q
  have key : ∀ p, Prm p → p ∣ N → q < p := by
    intro p hp hd
    have hp2 := hp.1
    have hpa : ¬ p ∣ a := fun h => by
      have h3 : p ∣ a ^ (N - 1) := Nat.dvd_trans h (dvd_pow1 a (by omega))
      have h4 : p ∣ a ^ (N - 1) % N := (Nat.dvd_mod_iff hd).2 h3
      rw [h1] at h4
      have := Nat.le_of_dvd (by omega) h4
      omega
    have g1 : a ^ (N - 1) % p = 1 % p := by
      rw [← Nat.mod_mod_of_dvd (a ^ (N - 1)) hd, h1]
    have g2 : a ^ (p - 1) % p = 1 % p := by rw [hp.fermat1 hpa, Nat.mod_eq_of_lt (by omega)]
    have hb1 : (a ^ c) ^ q % p = 1 % p := by
      rw [← Nat.pow_mul, Nat.mul_comm, show q * c = N - 1 by omega]; exact g1
    have hb2 : (a ^ c) ^ (p - 1) % p = 1 % p := by
      rw [← Nat.pow_mul, Nat.mul_comm, Nat.pow_mul]; exact pow_mod_one g2 _
    have hb3 := pow_gcd_one _ _ hb1 hb2
    rcases hq.2 _ (Nat.gcd_dvd_left q (p - 1)) with e | e
    · rw [e, Nat.pow_one] at hb3
      exfalso
      have h5 : p ∣ a ^ c % N + (N - 1) := by
        have h6 : (a ^ c % N) % p = 1 % p := by rw [Nat.mod_mod_of_dvd _ hd, hb3]
        refine Nat.dvd_of_mod_eq_zero ?_
        rw [Nat.add_mod, h6, ← Nat.add_mod, show 1 + (N - 1) = N by omega]
        exact Nat.mod_eq_zero_of_dvd hd
      have h7 : p ∣ Nat.gcd (a ^ c % N + (N - 1)) N := Nat.dvd_gcd h5 hd
      rw [h2] at h7
      have := Nat.le_of_dvd (by omega) h7
      omega
    · have h8 : q ∣ p - 1 := e ▸ Nat.gcd_dvd_right q (p - 1)
      have := Nat.le_of_dvd (by omega) h8
      omega
  -- the least divisor is prime
  have least : ∀ n, 2 ≤ n → ∃ p, Prm p ∧ p ∣ n := by
    intro n
    induction n using Nat.strongRecOn with
    | _ n ih =>
      intro h
      by_cases hp : Prm n
      · exact ⟨n, hp, Nat.dvd_refl _⟩
      · have : ∃ d, d ∣ n ∧ d ≠ 1 ∧ d ≠ n := by
          refine Classical.byContradiction fun hn => hp ⟨h, fun d hd => ?_⟩
          refine Classical.byContradiction fun ho => hn ⟨d, hd, fun e => ho (.inl e), fun e => ho (.inr e)⟩
        obtain ⟨d, hd, hd1, hd2⟩ := this
        have hle := Nat.le_of_dvd (by omega) hd
        have h0 : d ≠ 0 := fun e => by subst e; have := Nat.eq_zero_of_zero_dvd hd; omega
        obtain ⟨p, hp1, hp2⟩ := ih d (by omega) (by omega)
        exact ⟨p, hp1, Nat.dvd_trans hp2 hd⟩
  refine ⟨by omega, fun d hd => ?_⟩
  refine Classical.byContradiction fun hno => ?_
  have hd1 : d ≠ 1 := fun e => hno (.inl e)
  have hd2 : d ≠ N := fun e => hno (.inr e)
  obtain ⟨e, he⟩ := hd
  have hd0 : d ≠ 0 := fun h => by subst h; simp at he; omega
  have he1 : e ≠ 1 := fun h => by subst h; exact hd2 (by omega)
  have he0 : e ≠ 0 := fun h => by subst h; simp at he; omega
  obtain ⟨p1, hp1, hp1d⟩ := least d (by omega)
  obtain ⟨p2, hp2, hp2d⟩ := least e (by omega)
  have k1 := key p1 hp1 (Nat.dvd_trans hp1d ⟨e, he⟩)
  have k2 := key p2 hp2 (Nat.dvd_trans hp2d ⟨d, by rw [he, Nat.mul_comm]⟩)
  have l1 := Nat.le_of_dvd (by omega) hp1d
  have l2 := Nat.le_of_dvd (by omega) hp2d
  have : q * q ≤ d * e := Nat.mul_le_mul (by omega) (by omega)
  omega
/-- trial division: none of the 2^n numbers from k on divides N -/
def trial (N : Nat) : Nat → Nat → Bool
  | 0, k => !(Nat.beq (N % k) 0)
  | n + 1, k => trial N n k && trial N n (k + 2 ^ n)
theorem trial_no {N : Nat} : ∀ n k, trial N n k = true → ∀ d, k ≤ d → d < k + 2 ^ n → ¬ d ∣ N
  | 0, k, h, d, h1, h2 => by
    obtain rfl : d = k := by omega
    intro hd
    simp [trial, Nat.mod_eq_zero_of_dvd hd] at h
  | n + 1, k, h, d, h1, h2 => by
    simp only [trial, Bool.and_eq_true] at h
    rw [Nat.pow_succ] at h2
    rcases Nat.lt_or_ge d (k + 2 ^ n) with h3 | h3
    · exact trial_no n k h.1 d h1 h3
    · exact trial_no n (k + 2 ^ n) h.2 d h3 (by omega)
theorem prm_trial {N n : Nat} (h2 : 2 ≤ N) (hn : N < (2 ^ n + 2) * (2 ^ n + 2)) (h : trial N n 2 = true) : Prm N := by
  refine ⟨h2, fun d hd => ?_⟩
  refine Classical.byContradiction fun hno => ?_
  have hd1 : d ≠ 1 := fun e => hno (.inl e)
  have hd2 : d ≠ N := fun e => hno (.inr e)
  obtain ⟨e, he⟩ := hd
  have hd0 : d ≠ 0 := fun h => by subst h; simp at he; omega
  have he1 : e ≠ 1 := fun h => by subst h; exact hd2 (by omega)
  have he0 : e ≠ 0 := fun h => by subst h; simp at he; omega
  have k1 := fun h1 h3 => trial_no n 2 h d h1 h3 ⟨e, he⟩
  have k2 := fun h1 h3 => trial_no n 2 h e h1 h3 ⟨d, by rw [he, Nat.mul_comm]⟩
  have a1 : 2 ^ n + 2 ≤ d := Nat.le_of_not_lt fun h => k1 (by omega) (by omega)
  have a2 : 2 ^ n + 2 ≤ e := Nat.le_of_not_lt fun h => k2 (by omega) (by omega)
  have : (2 ^ n + 2) * (2 ^ n + 2) ≤ d * e := Nat.mul_le_mul a1 a2
  omega
/-- the power by squaring: x a^k modulo m -/
def sqm (m : Nat) : Nat → Nat → Nat → Nat → Nat
  | 0, x, _, _ => x
  | f + 1, x, a, k => if k = 0 then x else sqm m f (if k % 2 = 1 then x * a % m else x) (a * a % m) (k / 2)
theorem sqm_eq {m : Nat} : ∀ f x a k, k < 2 ^ f → sqm m f x a k % m = x * a ^ k % m
  | 0, x, a, k, h => by
    have : k = 0 := by omega
    subst this; simp [sqm]
  | f + 1, x, a, k, h => by
    unfold sqm
    by_cases h0 : k = 0
    · subst h0; simp
    · rw [if_neg h0, sqm_eq f _ _ _ (by rw [Nat.pow_succ] at h; omega)]
      have e1 : (a * a % m) ^ (k / 2) % m = a ^ (2 * (k / 2)) % m := by
        rw [← Nat.pow_mod, Nat.pow_mul, Nat.pow_two]
      by_cases hk : k % 2 = 1
      · rw [if_pos hk, Nat.mul_mod, e1, ← Nat.mul_mod, Nat.mod_mul_mod, Nat.mul_assoc, Nat.mul_comm a, ← Nat.pow_succ]
        rw [show (2 * (k / 2)).succ = k by omega]
      · rw [if_neg hk, Nat.mul_mod, e1, ← Nat.mul_mod]
        rw [show 2 * (k / 2) = k by omega]
theorem powm_sq {m a k : Nat} (hk : k < 2 ^ 64) : a ^ k % m = sqm m 64 1 a k % m := by rw [sqm_eq _ _ _ _ hk, Nat.one_mul]
end Go.Proofs.Ytpcodholllaceaa
