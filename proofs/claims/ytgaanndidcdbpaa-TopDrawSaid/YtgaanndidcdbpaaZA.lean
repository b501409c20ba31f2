/- Plain mathematics: binomial numbers, and the little theorem of Fermat. No program here. -/
namespace Go.Proofs.Ytgaanndidcdbpaa
/-- binomial numbers -/
def bin : Nat → Nat → Nat
  | _, 0 => 1
  | 0, _ + 1 => 0
  | n + 1, k + 1 => bin n k + bin n (k + 1)
theorem bin_zero (n : Nat) : bin n 0 = 1 := by cases n <;> rfl
theorem bin_gt : ∀ n k, n < k → bin n k = 0
  | 0, k + 1, _ => rfl
  | n + 1, k + 1, h => by rw [bin, bin_gt n k (by omega), bin_gt n (k + 1) (by omega)]
theorem bin_self : ∀ n, bin n n = 1
  | 0 => rfl
  | n + 1 => by rw [bin, bin_self n, bin_gt n (n + 1) (by omega)]
theorem bin_mul : ∀ n k, (k + 1) * bin (n + 1) (k + 1) = (n + 1) * bin n k
  | 0, 0 => rfl
  | 0, k + 1 => by
    have e : bin (0 + 1) (k + 1 + 1) = bin 0 (k + 1) + bin 0 (k + 1 + 1) := rfl
    rw [e, bin_gt 0 (k + 1) (by omega), bin_gt 0 (k + 1 + 1) (by omega)]
    simp
  | n + 1, 0 => by
    have h := bin_mul n 0
    have e : bin (n + 1 + 1) (0 + 1) = bin (n + 1) 0 + bin (n + 1) (0 + 1) := rfl
    rw [e, bin_zero]
    rw [bin_zero] at h
    omega
  | n + 1, k + 1 => by
    have h1 := bin_mul n k
    have h2 := bin_mul n (k + 1)
    have e : bin (n + 1) (k + 1) = bin n k + bin n (k + 1) := rfl
    have e2 : bin (n + 1 + 1) (k + 1 + 1) = bin (n + 1) (k + 1) + bin (n + 1) (k + 1 + 1) := rfl
    rw [e2]
    generalize bin (n + 1) (k + 1 + 1) = u at *
    generalize bin (n + 1) (k + 1) = v at *
    generalize bin n k = s at *
    generalize bin n (k + 1) = t at *
    subst e
    grind
/-- the sum of f over 0 .. n - 1 -/
def sumTo (f : Nat → Nat) : Nat → Nat
  | 0 => 0
  | n + 1 => sumTo f n + f n
theorem sumTo_add (f g : Nat → Nat) (n : Nat) : sumTo (fun i => f i + g i) n = sumTo f n + sumTo g n := by
  induction n with
  | zero => rfl
  | succ n ih => simp only [sumTo, ih]; omega
theorem sumTo_mul (f : Nat → Nat) (c n : Nat) : sumTo (fun i => c * f i) n = c * sumTo f n := by
  induction n with
  | zero => rfl
  | succ n ih => simp only [sumTo, ih, Nat.mul_add]
theorem sumTo_head (f : Nat → Nat) (n : Nat) : sumTo f (n + 1) = f 0 + sumTo (fun i => f (i + 1)) n := by
  induction n with
  | zero => simp [sumTo]
  | succ n ih => rw [sumTo, ih]; simp only [sumTo]; omega
theorem sumTo_congr {f g : Nat → Nat} {n : Nat} (h : ∀ i, i < n → f i = g i) : sumTo f n = sumTo g n := by
  induction n with
  | zero => rfl
  | succ n ih => rw [sumTo, sumTo, ih (fun i hi => h i (by omega)), h n (by omega)]
theorem binomial (x n : Nat) : (x + 1) ^ n = sumTo (fun k => bin n k * x ^ k) (n + 1) := by
  induction n with
  | zero => simp [sumTo, bin]
  | succ n ih =>
    rw [Nat.pow_succ, ih, sumTo_head (fun k => bin (n + 1) k * x ^ k), bin_zero]
    have e : sumTo (fun i => bin (n + 1) (i + 1) * x ^ (i + 1)) (n + 1) = x * sumTo (fun k => bin n k * x ^ k) (n + 1) + sumTo (fun i => bin n (i + 1) * x ^ (i + 1)) (n + 1) := by
      rw [← sumTo_mul, ← sumTo_add]
      refine sumTo_congr fun i _ => ?_
      have : bin (n + 1) (i + 1) = bin n i + bin n (i + 1) := rfl
      rw [this, Nat.add_mul, Nat.pow_succ]
      congr 1
      rw [Nat.mul_comm (x ^ i) x, Nat.mul_left_comm]
    rw [e]
    have h0 := sumTo_head (fun k => bin n k * x ^ k) n
    have h1 : sumTo (fun i => bin n (i + 1) * x ^ (i + 1)) (n + 1) = sumTo (fun i => bin n (i + 1) * x ^ (i + 1)) n := by
      rw [sumTo, bin_gt n (n + 1) (by omega)]; simp
    rw [h1, Nat.mul_add, Nat.mul_one, Nat.mul_comm _ x]
    simp only [bin_zero] at h0
    omega
def Prm (p : Nat) : Prop := 2 ≤ p ∧ ∀ d, d ∣ p → d = 1 ∨ d = p
theorem Prm.coprime {p a : Nat} (h : Prm p) (ha : ¬ p ∣ a) : Nat.gcd p a = 1 := by
  rcases h.2 _ (Nat.gcd_dvd_left p a) with e | e
  · exact e
  · exact absurd (e ▸ Nat.gcd_dvd_right p a) ha
theorem Prm.dvd_mul {p a b : Nat} (h : Prm p) (hd : p ∣ a * b) : p ∣ a ∨ p ∣ b := by
  by_cases ha : p ∣ a
  · exact .inl ha
  · exact .inr (Nat.Coprime.dvd_of_dvd_mul_left (h.coprime ha) hd)
theorem Prm.dvd_bin {p k : Nat} (h : Prm p) (h0 : 0 < k) (hk : k < p) : p ∣ bin p k := by
  obtain ⟨n, rfl⟩ : ∃ n, p = n + 1 := ⟨p - 1, by have := h.1; omega⟩
  obtain ⟨j, rfl⟩ : ∃ j, k = j + 1 := ⟨k - 1, by omega⟩
  have e := bin_mul n j
  rcases h.dvd_mul (a := j + 1) (b := bin (n + 1) (j + 1)) (e ▸ Nat.dvd_mul_right _ _) with hd | hd
  · exact absurd (Nat.le_of_dvd (by omega) hd) (by omega)
  · exact hd
theorem dvd_sumTo {p : Nat} {f : Nat → Nat} {n : Nat} (h : ∀ i, i < n → p ∣ f i) : p ∣ sumTo f n := by
  induction n with
  | zero => exact Nat.dvd_zero _
  | succ n ih => exact Nat.dvd_add (ih fun i hi => h i (by omega)) (h n (by omega))
theorem Prm.fermat {p : Nat} (h : Prm p) (a : Nat) : a ^ p % p = a % p := by
  have hp := h.1
  induction a with
  | zero => rw [Nat.zero_pow (by omega)]
  | succ a ih =>
    obtain ⟨n, rfl⟩ : ∃ n, p = n + 1 := ⟨p - 1, by omega⟩
    rw [binomial, sumTo, sumTo_head, bin_self, bin_zero]
    have hd : (n + 1) ∣ sumTo (fun i => bin (n + 1) (i + 1) * a ^ (i + 1)) n := dvd_sumTo fun i hi => Nat.dvd_trans (h.dvd_bin (by omega) (by omega)) (Nat.dvd_mul_right _ _)
    obtain ⟨c, hc⟩ := hd
    rw [hc, Nat.one_mul, Nat.pow_zero, Nat.one_mul]
    rw [show 1 + (n + 1) * c + a ^ (n + 1) = (1 + a ^ (n + 1)) + (n + 1) * c by omega, Nat.add_mul_mod_self_left, Nat.add_mod, ih, ← Nat.add_mod, Nat.add_comm 1 a]
theorem Prm.fermat1 {p a : Nat} (h : Prm p) (ha : ¬ p ∣ a) : a ^ (p - 1) % p = 1 := by
  have hp := h.1
  have e := h.fermat a
  rw [show p = (p - 1) + 1 by omega, Nat.pow_succ, ← show p = (p - 1) + 1 by omega] at e
  -- p ∣ a^(p-1) * a - a
  have h1 : 1 ≤ a ^ (p - 1) := Nat.pow_pos (Nat.pos_of_ne_zero fun e => ha (e ▸ Nat.dvd_zero _))
  have hd : p ∣ a * (a ^ (p - 1) - 1) := by
    rw [Nat.mul_sub, Nat.mul_one, Nat.mul_comm]
    refine Nat.dvd_of_mod_eq_zero ?_
    rw [Nat.sub_mod_eq_zero_of_mod_eq e]
  rcases h.dvd_mul hd with h2 | h2
  · exact absurd h2 ha
  · obtain ⟨c, hc⟩ := h2
    rw [show a ^ (p - 1) = 1 + p * c by omega, Nat.add_mul_mod_self_left]
    exact Nat.mod_eq_of_lt (by omega)
end Go.Proofs.Ytgaanndidcdbpaa
/- Plain mathematics: powers modulo a number, and the test of Pocklington. No program here. -/
namespace Go.Proofs.Ytgaanndidcdbpaa
/- powers modulo m -/
theorem pow_mod_one {m b : Nat} (h : b % m = 1 % m) (k : Nat) : b ^ k % m = 1 % m := by
  rw [Nat.pow_mod, h, ← Nat.pow_mod, Nat.one_pow]
/-- two exponents with which a power is 1: their greatest common divisor is one, too -/
theorem pow_gcd_one {m a : Nat} : ∀ (i j : Nat), a ^ i % m = 1 % m → a ^ j % m = 1 % m → a ^ (Nat.gcd i j) % m = 1 % m := by
  intro i
  induction i using Nat.strongRecOn with
  | _ i ih =>
    intro j h1 h2
    by_cases h0 : i = 0
    · subst h0; rwa [Nat.gcd_zero_left]
    · rw [Nat.gcd_rec]
      refine ih (j % i) (Nat.mod_lt _ (by omega)) i ?_ h1
      have e : a ^ j % m = (a ^ (j % i)) % m := by
        conv => lhs; rw [← Nat.div_add_mod j i, Nat.pow_add, Nat.pow_mul, Nat.mul_mod, pow_mod_one h1 (j / i), ← Nat.mul_mod, Nat.one_mul]
      rw [← e, h2]
theorem dvd_pow1 (a : Nat) {k : Nat} (h : 0 < k) : a ∣ a ^ k := by
  obtain ⟨j, rfl⟩ : ∃ j, k = j + 1 := ⟨k - 1, by omega⟩
  exact ⟨a ^ j, by rw [Nat.pow_succ, Nat.mul_comm]⟩
/-- Pocklington: a prime q that is greater than the root shows that N is prime -/
theorem pocklington {N q c a : Nat} (hq : Prm q) (hN : N = q * c + 1) (hc : 0 < c) (hs : N < q * q) (h1 : a ^ (N - 1) % N = 1) (h2 : Nat.gcd (a ^ c % N + (N - 1)) N = 1) : Prm N := by
  have hq2 := hq.1
  have hqN : q < N := by rw [hN]; exact Nat.lt_succ_of_le (Nat.le_mul_of_pos_right _ hc)
  -- every prime divisor p of N is greater than q
  have key : ∀ p, Prm p → p ∣ N → q < p := by
    intro p hp hd
    have hp2 := hp.1
    have hpa : ¬ p ∣ a := fun h => by
      have h3 : p ∣ a ^ (N - 1) := Nat.dvd_trans h (dvd_pow1 a (by omega))
      have h4 : p ∣ a ^ (N - 1) % N := (Nat.dvd_mod_iff hd).2 h3
      rw [h1] at h4
      have := Nat.le_of_dvd (by omega) h4
      omega
    have g1 : a ^ (N - 1) % p = 1 % p := by
      rw [← Nat.mod_mod_of_dvd (a ^ (N - 1)) hd, h1]
    have g2 : a ^ (p - 1) % p = 1 % p := by rw [hp.fermat1 hpa, Nat.mod_eq_of_lt (by omega)]
    have hb1 : (a ^ c) ^ q % p = 1 % p := by
      rw [← Nat.pow_mul, Nat.mul_comm, show q * c = N - 1 by omega]; exact g1
    have hb2 : (a ^ c) ^ (p - 1) % p = 1 % p := by
      rw [← Nat.pow_mul, Nat.mul_comm, Nat.pow_mul]; exact pow_mod_one g2 _
    have hb3 := pow_gcd_one _ _ hb1 hb2
    rcases hq.2 _ (Nat.gcd_dvd_left q (p - 1)) with e | e
    · rw [e, Nat.pow_one] at hb3
      exfalso
      have h5 : p ∣ a ^ c % N + (N - 1) := by
        have h6 : (a ^ c % N) % p = 1 % p := by rw [Nat.mod_mod_of_dvd _ hd, hb3]
        refine Nat.dvd_of_mod_eq_zero ?_
        rw [Nat.add_mod, h6, ← Nat.add_mod, show 1 + (N - 1) = N by omega]
        exact Nat.mod_eq_zero_of_dvd hd
      have h7 : p ∣ Nat.gcd (a ^ c % N + (N - 1)) N := Nat.dvd_gcd h5 hd
      rw [h2] at h7
      have := Nat.le_of_dvd (by omega) h7
      omega
    · have h8 : q ∣ p - 1 := e ▸ Nat.gcd_dvd_right q (p - 1)
      have := Nat.le_of_dvd (by omega) h8
      omega
  -- the least divisor is prime
  have least : ∀ n, 2 ≤ n → ∃ p, Prm p ∧ p ∣ n := by
    intro n
    induction n using Nat.strongRecOn with
    | _ n ih =>
      intro h
      by_cases hp : Prm n
      · exact ⟨n, hp, Nat.dvd_refl _⟩
      · have : ∃ d, d ∣ n ∧ d ≠ 1 ∧ d ≠ n := by
          refine Classical.byContradiction fun hn => hp ⟨h, fun d hd => ?_⟩
          refine Classical.byContradiction fun ho => hn ⟨d, hd, fun e => ho (.inl e), fun e => ho (.inr e)⟩
        obtain ⟨d, hd, hd1, hd2⟩ := this
        have hle := Nat.le_of_dvd (by omega) hd
        have h0 : d ≠ 0 := fun e => by subst e; have := Nat.eq_zero_of_zero_dvd hd; omega
        obtain ⟨p, hp1, hp2⟩ := ih d (by omega) (by omega)
        exact ⟨p, hp1, Nat.dvd_trans hp2 hd⟩
  refine ⟨by omega, fun d hd => ?_⟩
  refine Classical.byContradiction fun hno => ?_
  have hd1 : d ≠ 1 := fun e => hno (.inl e)
  have hd2 : d ≠ N := fun e => hno (.inr e)
  obtain ⟨e, he⟩ := hd
  have hd0 : d ≠ 0 := fun h => by subst h; simp at he; omega
  have he1 : e ≠ 1 := fun h => by subst h; exact hd2 (by omega)
  have he0 : e ≠ 0 := fun h => by subst h; simp at he; omega
  obtain ⟨p1, hp1, hp1d⟩ := least d (by omega)
  obtain ⟨p2, hp2, hp2d⟩ := least e (by omega)
  have k1 := key p1 hp1 (Nat.dvd_trans hp1d ⟨e, he⟩)
  have k2 := key p2 hp2 (Nat.dvd_trans hp2d ⟨d, by rw [he, Nat.mul_comm]⟩)
  have l1 := Nat.le_of_dvd (by omega) hp1d
  have l2 := Nat.le_of_dvd (by omega) hp2d
  have : q * q ≤ d * e := Nat.mul_le_mul (by omega) (by omega)
  omega
/-- trial division: none of the 2^n numbers from k on divides N -/
def trial (N : Nat) : Nat → Nat → Bool
  | 0, k => !(Nat.beq (N % k) 0)
  | n + 1, k => trial N n k && trial N n (k + 2 ^ n)
theorem trial_no {N : Nat} : ∀ n k, trial N n k = true → ∀ d, k ≤ d → d < k + 2 ^ n → ¬ d ∣ N
  | 0, k, h, d, h1, h2 => by
    obtain rfl : d = k := by omega
    intro hd
    simp [trial, Nat.mod_eq_zero_of_dvd hd] at h
  | n + 1, k, h, d, h1, h2 => by
    simp only [trial, Bool.and_eq_true] at h
    rw [Nat.pow_succ] at h2
    rcases Nat.lt_or_ge d (k + 2 ^ n) with h3 | h3
    · exact trial_no n k h.1 d h1 h3
    · exact trial_no n (k + 2 ^ n) h.2 d h3 (by omega)
theorem prm_trial {N n : Nat} (h2 : 2 ≤ N) (hn : N < (2 ^ n + 2) * (2 ^ n + 2)) (h : trial N n 2 = true) : Prm N := by
  refine ⟨h2, fun d hd => ?_⟩
  refine Classical.byContradiction fun hno => ?_
  have hd1 : d ≠ 1 := fun e => hno (.inl e)
  have hd2 : d ≠ N := fun e => hno (.inr e)
  obtain ⟨e, he⟩ := hd
  have hd0 : d ≠ 0 := fun h => by subst h; simp at he; omega
  have he1 : e ≠ 1 := fun h => by subst h; exact hd2 (by omega)
  have he0 : e ≠ 0 := fun h => by subst h; simp at he; omega
  have k1 := fun h1 h3 => trial_no n 2 h d h1 h3 ⟨e, he⟩
  have k2 := fun h1 h3 => trial_no n 2 h e h1 h3 ⟨d, by rw [he, Nat.mul_comm]⟩
  have a1 : 2 ^ n + 2 ≤ d := Nat.le_of_not_lt fun h => k1 (by omega) (by omega)
  have a2 : 2 ^ n + 2 ≤ e := Nat.le_of_not_lt fun h => k2 (by omega) (by omega)
  have : (2 ^ n + 2) * (2 ^ n + 2) ≤ d * e := Nat.mul_le_mul a1 a2
  omega
/-- the power by squaring: x a^k modulo m -/
def sqm (m : Nat) : Nat → Nat → Nat → Nat → Nat
  | 0, x, _, _ => x
  | f + 1, x, a, k => if k = 0 then x else sqm m f (if k % 2 = 1 then x * a % m else x) (a * a % m) (k / 2)
theorem sqm_eq {m : Nat} : ∀ f x a k, k < 2 ^ f → sqm m f x a k % m = x * a ^ k % m
  | 0, x, a, k, h => by
    have : k = 0 := by omega
    subst this; simp [sqm]
  | f + 1, x, a, k, h => by
    unfold sqm
    by_cases h0 : k = 0
    · subst h0; simp
    · rw [if_neg h0, sqm_eq f _ _ _ (by rw [Nat.pow_succ] at h; omega)]
      have e1 : (a * a % m) ^ (k / 2) % m = a ^ (2 * (k / 2)) % m := by
        rw [← Nat.pow_mod, Nat.pow_mul, Nat.pow_two]
      by_cases hk : k % 2 = 1
      · rw [if_pos hk, Nat.mul_mod, e1, ← Nat.mul_mod, Nat.mod_mul_mod, Nat.mul_assoc, Nat.mul_comm a, ← Nat.pow_succ]
        rw [show (2 * (k / 2)).succ = k by omega]
      · rw [if_neg hk, Nat.mul_mod, e1, ← Nat.mul_mod]
        rw [show 2 * (k / 2) = k by omega]
theorem powm_sq {m a k : Nat} (hk : k < 2 ^ 64) : a ^ k % m = sqm m 64 1 a k % m := by rw [sqm_eq _ _ _ _ hk, Nat.one_mul]
end Go.Proofs.Ytgaanndidcdbpaa
/- The specification of layer 23 in plain Lean. No program here. -/
namespace Go.Proofs.Ytgaanndidcdbpaa

/-- the power of a modulo P -/
def pw (a k : Nat) : Nat := sqm 2305843009213691579 64 1 (a % 2305843009213691579) k
/-- the value of a polynomial -/
def hor (cs : List Nat) (x : Nat) : Nat := cs.foldr (fun c y => (y * x % 1152921504606845789 + c) % 1152921504606845789) 0
def coefOk (c : Nat) : Bool := decide (c < 1152921504606845789)
def elOk (c : Nat) : Bool := decide (1 ≤ c) && decide (c < 2305843009213691579) && Nat.beq (pw c 1152921504606845789) 1
def shOk (s : Nat × Nat) : Bool := decide (1 ≤ s.1) && decide (s.1 ≤ 192) && decide (s.2 < 1152921504606845789)
def lenOk (n : Nat) : Bool := decide (1 ≤ n) && decide (n ≤ 24)
def allD (ok : Nat → Bool) (l : List Nat) : Bool := lenOk l.length && l.all ok
def powersD (cs : List Nat) : List Nat × Int := if allD coefOk cs then (cs.map (pw 4), 0) else ([], 230)
def splitD (cs : List Nat) (n : Int) : List (Nat × Nat) × Int := if allD coefOk cs ∧ 1 ≤ n ∧ n ≤ 192 then ((List.range n.toNat).map fun i => (i + 1, hor cs (i + 1)), 0) else ([], 230)
/-- the product of the powers of checks; k: the exponent of the first -/
def verP : List Nat → Nat → Nat → Nat → Nat
  | [], _, pr, _ => pr
  | c :: r, x, pr, k => verP r x (pr * pw c k % 2305843009213691579) (k * x % 1152921504606845789)
def verD (checks : List Nat) (s : Nat × Nat) : Bool := allD elOk checks && shOk s && Nat.beq (pw 4 s.2) (verP checks s.1 1 1)
def minusQ (a b : Nat) : Nat := (a + (1152921504606845789 - b)) % 1152921504606845789
/-- y times the product of x - xs[k], k < n, without that of i -/
def prodQ (l : List (Nat × Nat)) (i x : Nat) : Nat → Nat → Nat
  | 0, y => y
  | n + 1, y => if n = i then prodQ l i x n y else prodQ l i x n y * minusQ x (l.getD n (0, 0)).1 % 1152921504606845789
def invQ (a : Nat) : Nat := sqm 1152921504606845789 64 1 a (1152921504606845789 - 2)
def atTerm (l : List (Nat × Nat)) (x i : Nat) : Nat := prodQ l i x l.length (l.getD i (0, 0)).2 * invQ (prodQ l i (l.getD i (0, 0)).1 l.length 1) % 1152921504606845789
def atSum (l : List (Nat × Nat)) (x : Nat) : Nat → Nat
  | 0 => 0
  | i + 1 => (atSum l x i + atTerm l x i) % 1152921504606845789
def atD (l : List (Nat × Nat)) (x : Nat) : Nat := atSum l x l.length
/-- the first shares with different X, t at most -/
def firstStep (t : Nat) (f : List (Nat × Nat)) (s : Nat × Nat) : List (Nat × Nat) := if f.any (fun u => u.1 == s.1) = false ∧ f.length < t then f ++ [s] else f
def firstD (l : List (Nat × Nat)) (t : Nat) : List (Nat × Nat) := l.foldl (firstStep t) []
def joinD (l : List (Nat × Nat)) (t : Int) : Nat × Int :=
  if (1 ≤ t ∧ t ≤ 24) ∧ l.all shOk = true then
    if (firstD l t.toNat).length < t.toNat ∨ l.all (fun s => atD (firstD l t.toNat) s.1 == s.2) = false then (0, 230) else (atD (firstD l t.toNat) 0, 0)
  else (0, 230)
theorem sqm_lt {m : Nat} (hm : 1 < m) : ∀ f x a k, x < m → sqm m f x a k < m
  | 0, x, a, k, h => h
  | f + 1, x, a, k, h => by
    unfold sqm
    by_cases h0 : k = 0
    · rw [if_pos h0]; exact h
    · rw [if_neg h0]
      refine sqm_lt hm f _ _ _ ?_
      split
      · exact Nat.mod_lt _ (by omega)
      · exact h
theorem pw_lt (a k : Nat) : pw a k < 2305843009213691579 := sqm_lt (by decide) _ _ _ _ (by decide)
end Go.Proofs.Ytgaanndidcdbpaa
/- Plain mathematics: the order of the group is prime. No program here. -/
namespace Go.Proofs.Ytgaanndidcdbpaa
theorem pock {N q c a : Nat} (hq : Prm q) (hN : N = q * c + 1) (hc : 0 < c) (hs : N < q * q) (h64 : N < 18446744073709551616) (h1 : sqm N 64 1 a (N - 1) % N = 1) (h2 : Nat.gcd (sqm N 64 1 a c % N + (N - 1)) N = 1) : Prm N := by
  have hq2 := hq.1
  have hcN : c ≤ N := by rw [hN]; exact Nat.le_succ_of_le (Nat.le_mul_of_pos_left _ (by omega))
  exact pocklington hq hN hc hs (by rw [powm_sq (by omega)]; exact h1) (by rw [powm_sq (by omega)]; exact h2)
theorem prm_s : Prm 5671741379 := prm_trial (n := 17) (by decide +kernel) (by decide +kernel) (by decide +kernel)
theorem prm_r : Prm 288230376151711447 := pock (q := 5671741379) (c := 50818674) (a := 2) prm_s (by decide +kernel) (by decide +kernel) (by decide +kernel) (by decide +kernel) (by decide +kernel) (by decide +kernel)
theorem prm_Q : Prm 1152921504606845789 := pock (q := 288230376151711447) (c := 4) (a := 2) prm_r (by decide +kernel) (by decide +kernel) (by decide +kernel) (by decide +kernel) (by decide +kernel) (by decide +kernel)
end Go.Proofs.Ytgaanndidcdbpaa
/- Plain laws of powers modulo P and of the polynomial's value. No program here. -/
namespace Go.Proofs.Ytgaanndidcdbpaa
section
variable {p : Nat}
/-- the power by squaring is the power -/
theorem sqm_pow (hp : 1 < p) {a k : Nat} (hk : k < 2 ^ 64) : sqm p 64 1 (a % p) k = a ^ k % p := by
  have h := sqm_eq (m := p) 64 1 (a % p) k hk
  rw [Nat.mod_eq_of_lt (sqm_lt hp 64 1 (a % p) k hp), Nat.one_mul, ← Nat.pow_mod] at h
  exact h
end
theorem pw_pow {a k : Nat} (hk : k < 2 ^ 64) : pw a k = a ^ k % 2305843009213691579 := sqm_pow (by decide) hk
theorem pw_add {a k m : Nat} (h : k + m < 2 ^ 64) : pw a k * pw a m % 2305843009213691579 = pw a (k + m) := by
  rw [pw_pow (by omega), pw_pow (by omega), pw_pow h, ← Nat.mul_mod, Nat.pow_add]
/-- the powers of 4, at whatever exponent -/
def E4 (k : Nat) : Nat := 4 ^ k % 2305843009213691579
theorem pw_E4 {k : Nat} (hk : k < 2 ^ 64) : pw 4 k = E4 k := pw_pow hk
theorem E4_Q : E4 1152921504606845789 = 1 := by rw [← pw_E4 (by decide)]; decide +kernel
theorem E4_one : E4 1 = 4 := by rw [← pw_E4 (by decide)]; decide +kernel
theorem E4_zero : E4 0 = 1 := by rw [← pw_E4 (by decide)]; decide +kernel
theorem E4_lt (k : Nat) : E4 k < 2305843009213691579 := Nat.mod_lt _ (by decide)
theorem E4_add (a b : Nat) : E4 (a + b) = E4 a * E4 b % 2305843009213691579 := by unfold E4; rw [Nat.pow_add, Nat.mul_mod]
theorem E4_pow (a b : Nat) : E4 a ^ b % 2305843009213691579 = E4 (a * b) := by unfold E4; rw [← Nat.pow_mod, Nat.pow_mul]
section
variable {q : Nat} (hq : E4 q = 1)
include hq
theorem E4_mulq (j : Nat) : E4 (q * j) = 1 := by
  induction j with
  | zero => exact E4_zero
  | succ j ih => rw [Nat.mul_succ, E4_add, ih, hq]
theorem E4_modq (k : Nat) : E4 (k % q) = E4 k := by
  conv => rhs; rw [← Nat.div_add_mod k q, E4_add, E4_mulq hq, Nat.one_mul, Nat.mod_eq_of_lt (E4_lt _)]
theorem E4_inj' (hp : Prm q) {a b : Nat} (hab : a ≤ b) (hb : b < q) (h : E4 a = E4 b) : a = b := by
  refine Classical.byContradiction fun hne => ?_
  have e1 : E4 (q - a + b) = E4 (q - a + a) := by rw [E4_add, ← h, ← E4_add]
  rw [Nat.sub_add_cancel (by omega), hq, show q - a + b = q * 1 + (b - a) by omega, E4_add, E4_mulq hq, Nat.one_mul, Nat.mod_eq_of_lt (E4_lt _)] at e1
  have hg : Nat.gcd q (b - a) = 1 := hp.coprime fun hd => by have := Nat.le_of_dvd (by omega) hd; omega
  have h3 := pow_gcd_one (m := 2305843009213691579) (a := 4) q (b - a) (hq.trans (by decide)) (e1.trans (by decide))
  rw [hg] at h3
  exact absurd h3 (by decide)
end
theorem E4_mod (k : Nat) : E4 (k % 1152921504606845789) = E4 k := E4_modq E4_Q k
theorem E4_inj {a b : Nat} (ha : a < 1152921504606845789) (hb : b < 1152921504606845789) (h : E4 a = E4 b) : a = b := by
  rcases Nat.le_total a b with hab | hab
  · exact E4_inj' E4_Q prm_Q hab hb h
  · exact (E4_inj' E4_Q prm_Q hab ha h.symm).symm
theorem E4_congr {a b : Nat} (h : a % 1152921504606845789 = b % 1152921504606845789) : E4 a = E4 b := by rw [← E4_mod a, h, E4_mod]
theorem lt64_Q {c : Nat} (h : c < 1152921504606845789) : c < 2 ^ 64 := Nat.lt_trans h (by decide)
theorem pw_E4' {c k : Nat} (hk : k < 2 ^ 64) : pw (E4 c) k = E4 (c * k) := by rw [pw_pow hk, E4_pow]
theorem hor_lt (cs : List Nat) (x : Nat) : hor cs x < 1152921504606845789 := by
  cases cs with
  | nil => exact (by decide : (0 : Nat) < 1152921504606845789)
  | cons c r => exact Nat.mod_lt _ (by decide)
theorem hor_cons (c : Nat) (cs : List Nat) (x : Nat) : hor (c :: cs) x = (hor cs x * x + c) % 1152921504606845789 := by unfold hor; rw [List.foldr_cons, Nat.mod_add_mod]
/-- the powers of 4 are elements -/
theorem el_pw {c : Nat} (hc : c < 1152921504606845789) : elOk (pw 4 c) = true := by
  rw [pw_E4 (lt64_Q hc)]
  have h1 : pw (E4 c) 1152921504606845789 = 1 := by rw [pw_E4' (by decide), Nat.mul_comm]; exact E4_mulq E4_Q c
  have h0 : 1 ≤ E4 c := Nat.pos_of_ne_zero fun e => by rw [e] at h1; exact absurd h1 (by decide +kernel)
  unfold elOk
  rw [h1, decide_eq_true h0, decide_eq_true (E4_lt c)]
  rfl
theorem verP_pw (x : Nat) : ∀ (cs : List Nat) (pr k : Nat), (∀ c ∈ cs, c < 1152921504606845789) → pr < 2305843009213691579 → k < 1152921504606845789 → verP (cs.map (pw 4)) x pr k = pr * E4 (k * hor cs x) % 2305843009213691579
  | [], pr, k, _, hp, _ => by
    show pr = pr * E4 (k * 0) % 2305843009213691579
    rw [Nat.mul_zero, E4_zero, Nat.mul_one, Nat.mod_eq_of_lt hp]
  | c :: r, pr, k, hc, hp, hk => by
    have hc0 := hc c (by simp)
    show verP (r.map (pw 4)) x (pr * pw (pw 4 c) k % 2305843009213691579) (k * x % 1152921504606845789) = _
    rw [verP_pw x r _ _ (fun d hd => hc d (by simp [hd])) (Nat.mod_lt _ (by decide)) (Nat.mod_lt _ (by decide)), pw_E4 (lt64_Q hc0), pw_E4' (lt64_Q hk)]
    rw [Nat.mod_mul_mod, Nat.mul_assoc, ← Nat.mul_mod_mod, ← E4_add]
    congr 2
    refine E4_congr ?_
    rw [hor_cons, Nat.mul_mod_mod, Nat.add_mod, Nat.mod_mul_mod, ← Nat.add_mod]
    congr 1
    rw [Nat.mul_add, Nat.mul_comm c k, Nat.add_comm, Nat.mul_assoc, Nat.mul_comm x]
theorem all_mem {ok : Nat → Bool} {l : List Nat} (h : allD ok l = true) : 1 ≤ l.length ∧ l.length ≤ 24 ∧ ∀ c ∈ l, ok c = true := by
  unfold allD lenOk at h
  simp only [Bool.and_eq_true, decide_eq_true_eq, List.all_eq_true] at h
  exact ⟨h.1.1, h.1.2, h.2⟩
theorem all_pw {cs : List Nat} (h : allD coefOk cs = true) : allD elOk (cs.map (pw 4)) = true := by
  obtain ⟨h1, h2, h3⟩ := all_mem h
  unfold allD lenOk
  rw [List.length_map, decide_eq_true h1, decide_eq_true h2]
  simp only [Bool.true_and, List.all_map, List.all_eq_true]
  intro c hc
  exact el_pw (of_decide_eq_true (h3 c hc))
/-- a share fits the powers exactly if it lies on the polynomial -/
theorem ver_pw {cs : List Nat} (h : allD coefOk cs = true) {x y : Nat} (hx : 1 ≤ x) (hx2 : x ≤ 192) : verD (cs.map (pw 4)) (x, y) = decide (y = hor cs x) := by
  have h3 : ∀ c ∈ cs, c < 1152921504606845789 := fun c hc => of_decide_eq_true ((all_mem h).2.2 c hc)
  unfold verD
  rw [all_pw h, verP_pw x cs 1 1 h3 (by decide) (by decide), Nat.one_mul, Nat.one_mul, Nat.mod_eq_of_lt (E4_lt _), Bool.true_and]
  by_cases hy : y < 1152921504606845789
  · have hs : shOk (x, y) = true := by unfold shOk; rw [decide_eq_true hx, decide_eq_true hx2, decide_eq_true hy]; rfl
    rw [hs, Bool.true_and]
    show Nat.beq (pw 4 y) _ = _
    rw [pw_E4 (lt64_Q hy), Bool.eq_iff_iff, Nat.beq_eq, decide_eq_true_eq]
    exact ⟨fun e => E4_inj hy (hor_lt _ _) e, fun e => by rw [e]⟩
  · have hs : shOk (x, y) = false := by unfold shOk; rw [decide_eq_false (p := y < 1152921504606845789) hy]; simp
    rw [hs, Bool.false_and]
    exact (decide_eq_false fun e => hy (by rw [e]; exact hor_lt _ _)).symm
/-- sums of polynomials -/
theorem hor_add (x : Nat) : ∀ (a b : List Nat), a.length = b.length → hor (List.zipWith (fun c d => (c + d) % 1152921504606845789) a b) x = (hor a x + hor b x) % 1152921504606845789
  | [], [], _ => rfl
  | c :: a, d :: b, h => by
    rw [List.zipWith_cons_cons, hor_cons, hor_cons, hor_cons, hor_add x a b (by simpa using h)]
    rw [Nat.add_mod_mod, Nat.add_mod, Nat.mod_mul_mod, ← Nat.add_mod]
    rw [← Nat.add_mod]
    congr 1
    rw [Nat.add_mul]
    omega
theorem pw4_add {a b : Nat} (ha : a < 1152921504606845789) (hb : b < 1152921504606845789) : pw 4 ((a + b) % 1152921504606845789) = pw 4 a * pw 4 b % 2305843009213691579 := by
  rw [pw_E4 (lt64_Q (Nat.mod_lt _ (by decide))), E4_mod, E4_add, pw_E4 (lt64_Q ha), pw_E4 (lt64_Q hb)]
theorem pw4_mod {k : Nat} (hk : k < 2 ^ 64) : pw 4 (k % 1152921504606845789) = pw 4 k := by
  rw [pw_E4 (lt64_Q (Nat.mod_lt _ (by decide))), E4_mod, pw_E4 hk]
theorem pw4_mul {k m : Nat} (hk : k < 2 ^ 64) : pw (pw 4 k) (m % 1152921504606845789) = pw 4 ((k % 1152921504606845789) * (m % 1152921504606845789) % 1152921504606845789) := by
  rw [pw_E4 hk, pw_E4' (lt64_Q (Nat.mod_lt _ (by decide))), pw_E4 (lt64_Q (Nat.mod_lt _ (by decide)))]
  refine E4_congr ?_
  rw [Nat.mod_mod, Nat.mod_mul_mod]
theorem pw_one (a : Nat) : pw a 1 = a % 2305843009213691579 := by rw [pw_pow (by decide), Nat.pow_one]
theorem pw_zero (a : Nat) : pw a 0 = 1 := by rw [pw_pow (by decide), Nat.pow_zero]
end Go.Proofs.Ytgaanndidcdbpaa
/- Plain mathematics: interpolation. No program here. -/
namespace Go.Proofs.Ytgaanndidcdbpaa
section
variable {q : Nat} [NeZero q]
/-- the value of a polynomial -/
def ev : List (Fin q) → Fin q → Fin q
  | [], _ => 0
  | a :: r, x => a + x * ev r x
def Poly (n : Nat) (h : Fin q → Fin q) : Prop := ∃ c : List (Fin q), c.length ≤ n ∧ ∀ x, h x = ev c x
theorem ev_add : ∀ (c d : List (Fin q)), ∃ e : List (Fin q), e.length ≤ max c.length d.length ∧ ∀ x, ev c x + ev d x = ev e x
  | [], d => ⟨d, by simp, fun x => by simp only [ev]; grind⟩
  | c, [] => ⟨c, by simp, fun x => by simp only [ev]; grind⟩
  | a :: c, b :: d => by
    obtain ⟨e, h1, h2⟩ := ev_add c d
    refine ⟨(a + b) :: e, by simp; omega, fun x => ?_⟩
    have := h2 x
    simp only [ev]
    rw [← this]
    grind
theorem ev_mul (a : Fin q) : ∀ (c : List (Fin q)), ∃ e : List (Fin q), e.length ≤ c.length ∧ ∀ x, a * ev c x = ev e x
  | [] => ⟨[], by simp, fun x => by simp only [ev]; grind⟩
  | b :: c => by
    obtain ⟨e, h1, h2⟩ := ev_mul a c
    refine ⟨(a * b) :: e, by simp; omega, fun x => ?_⟩
    have := h2 x
    simp only [ev]
    rw [← this]
    grind
theorem ev_div (r : Fin q) : ∀ (c : List (Fin q)), ∃ d : List (Fin q), d.length ≤ c.length - 1 ∧ ∀ x, ev c x = ev c r + (x - r) * ev d x
  | [] => ⟨[], by simp, fun x => by simp only [ev]; grind⟩
  | [a] => ⟨[], by simp, fun x => by simp only [ev]; grind⟩
  | a :: b :: c => by
    obtain ⟨d, h1, h2⟩ := ev_div r (b :: c)
    refine ⟨ev (b :: c) r :: d, by simp at h1 ⊢; omega, fun x => ?_⟩
    have hx := h2 x
    show a + x * ev (b :: c) x = (a + r * ev (b :: c) r) + (x - r) * (ev (b :: c) r + x * ev d x)
    rw [hx]
    generalize ev (b :: c) r = u
    generalize ev d x = v
    grind
namespace Poly
variable {n m : Nat} {f g : Fin q → Fin q}
theorem mono (h : Poly n f) (hm : n ≤ m) : Poly m f := by obtain ⟨c, h1, h2⟩ := h; exact ⟨c, by omega, h2⟩
theorem add (h : Poly n f) (h' : Poly n g) : Poly n (fun x => f x + g x) := by
  obtain ⟨c, h1, h2⟩ := h
  obtain ⟨d, h3, h4⟩ := h'
  obtain ⟨e, h5, h6⟩ := ev_add c d
  exact ⟨e, by omega, fun x => by show f x + g x = _; rw [h2, h4, h6]⟩
theorem smul (h : Poly n f) (a : Fin q) : Poly n (fun x => a * f x) := by
  obtain ⟨c, h1, h2⟩ := h
  obtain ⟨e, h5, h6⟩ := ev_mul a c
  exact ⟨e, by omega, fun x => by show a * f x = _; rw [h2, h6]⟩
theorem one : Poly 1 (fun _ : Fin q => 1) := ⟨[1], by simp, fun x => by simp only [ev]; grind⟩
theorem zero : Poly n (fun _ : Fin q => 0) := ⟨[], by simp, fun x => rfl⟩
theorem mulX (h : Poly n f) : Poly (n + 1) (fun x => x * f x) := by
  obtain ⟨c, h1, h2⟩ := h
  exact ⟨0 :: c, by simp; omega, fun x => by show x * f x = 0 + x * ev c x; rw [h2]; grind⟩
theorem lin (h : Poly n f) (a : Fin q) : Poly (n + 1) (fun x => f x * (x - a)) := by
  have h1 := h.mulX.add ((h.smul (-a)).mono (Nat.le_succ n))
  refine ⟨h1.choose, h1.choose_spec.1, fun x => ?_⟩
  have := h1.choose_spec.2 x
  rw [← this]
  grind
end Poly
/-- a unit, in the sense that its power is its inverse -/
def Unt (a : Fin q) : Prop := ∃ b, a * b = 1
theorem Unt.mul {a b : Fin q} (ha : Unt a) (hb : Unt b) : Unt (a * b) := by
  obtain ⟨c, h1⟩ := ha
  obtain ⟨d, h2⟩ := hb
  exact ⟨c * d, by grind⟩
theorem Unt.one : Unt (1 : Fin q) := ⟨1, by grind⟩
theorem Unt.cancel {a b : Fin q} (ha : Unt a) (h : a * b = 0) : b = 0 := by
  obtain ⟨c, h1⟩ := ha
  grind
/-- a polynomial with as many roots as coefficients is zero -/
theorem Poly.roots : ∀ (n : Nat) (f : Fin q → Fin q) (xs : Nat → Fin q), Poly n f → (∀ i j, i < n → j < n → i ≠ j → Unt (xs i - xs j)) → (∀ i, i < n → f (xs i) = 0) → ∀ x, f x = 0
  | 0, f, xs, h, _, _, x => by
    obtain ⟨c, h1, h2⟩ := h
    obtain rfl : c = [] := List.eq_nil_of_length_eq_zero (by omega)
    exact h2 x
  | n + 1, f, xs, h, hu, hr, x => by
    obtain ⟨c, h1, h2⟩ := h
    obtain ⟨d, h3, h4⟩ := ev_div (xs n) c
    have h0 : ev c (xs n) = 0 := (h2 _).symm.trans (hr n (by omega))
    have hd : ∀ y, ev d y = 0 := Poly.roots n (ev d) xs ⟨d, by omega, fun _ => rfl⟩ (fun i j hi hj hij => hu i j (by omega) (by omega) hij) (fun i hi => by
      have e1 := h4 (xs i)
      rw [h0, ← h2, hr i (by omega)] at e1
      exact (hu i n (by omega) (by omega) (by omega)).cancel (by grind))
    rw [h2, h4, h0, hd]
    grind
/-- the product of x - xs k, k < n, but for k = i -/
def lag (xs : Nat → Fin q) (i : Nat) (x : Fin q) : Nat → Fin q
  | 0 => 1
  | n + 1 => if n = i then lag xs i x n else lag xs i x n * (x - xs n)
theorem lag_poly1 (xs : Nat → Fin q) (i : Nat) : ∀ n, Poly (n + 1) (fun x => lag xs i x n)
  | 0 => Poly.one
  | n + 1 => by
    by_cases e : n = i
    · simp only [lag, if_pos e]; exact (lag_poly1 xs i n).mono (by omega)
    · simp only [lag, if_neg e]; exact (lag_poly1 xs i n).lin _
theorem lag_poly (xs : Nat → Fin q) (i : Nat) : ∀ n, i < n → Poly n (fun x => lag xs i x n)
  | 0, h => by omega
  | n + 1, h => by
    by_cases e : n = i
    · simp only [lag, if_pos e]; exact lag_poly1 xs i n
    · simp only [lag, if_neg e]; exact (lag_poly xs i n (by omega)).lin _
theorem lag_zero (xs : Nat → Fin q) (i j : Nat) (hij : j ≠ i) : ∀ n, j < n → lag xs i (xs j) n = 0
  | 0, h => by omega
  | n + 1, h => by
    by_cases e : n = i
    · simp only [lag, if_pos e]; exact lag_zero xs i j hij n (by omega)
    · simp only [lag, if_neg e]
      by_cases e2 : j = n
      · subst e2; grind
      · rw [lag_zero xs i j hij n (by omega)]; grind
theorem lag_unt (xs : Nat → Fin q) (i : Nat) : ∀ n, (∀ k, k < n → k ≠ i → Unt (xs i - xs k)) → Unt (lag xs i (xs i) n)
  | 0, _ => Unt.one
  | n + 1, h => by
    have ih := lag_unt xs i n (fun k hk => h k (by omega))
    by_cases e : n = i
    · simp only [lag, if_pos e]; exact ih
    · simp only [lag, if_neg e]; exact ih.mul (h n (by omega) e)
/-- the interpolation, with w i the inverse of its denominator -/
def interp (xs ys ws : Nat → Fin q) (n : Nat) (x : Fin q) : Nat → Fin q
  | 0 => 0
  | i + 1 => interp xs ys ws n x i + ys i * lag xs i x n * ws i
theorem interp_poly (xs ys ws : Nat → Fin q) (n : Nat) : ∀ m, m ≤ n → Poly n (fun x => interp xs ys ws n x m)
  | 0, _ => Poly.zero
  | m + 1, h => by
    have h1 := (interp_poly xs ys ws n m (by omega)).add ((lag_poly xs m n (by omega)).smul (ys m * ws m))
    refine ⟨h1.choose, h1.choose_spec.1, fun x => ?_⟩
    have := h1.choose_spec.2 x
    rw [← this]
    simp only [interp]
    grind
theorem interp_at (xs ys ws : Nat → Fin q) (n j : Nat) (hj : j < n) (hw : lag xs j (xs j) n * ws j = 1) : ∀ m, m ≤ n → interp xs ys ws n (xs j) m = if j < m then ys j else 0
  | 0, _ => by simp [interp]
  | m + 1, h => by
    rw [interp, interp_at xs ys ws n j hj hw m (by omega)]
    by_cases e : j = m
    · subst e
      rw [if_neg (by omega), if_pos (by omega)]
      grind
    · rw [lag_zero xs m j e n hj]
      by_cases e2 : j < m
      · rw [if_pos e2, if_pos (by omega)]; grind
      · rw [if_neg e2, if_neg (by omega)]; grind
/-- interpolation gives back every polynomial with so few coefficients -/
theorem interp_eq {xs ys ws : Nat → Fin q} {n : Nat} (hu : ∀ i j, i < n → j < n → i ≠ j → Unt (xs i - xs j)) (hw : ∀ j, j < n → lag xs j (xs j) n * ws j = 1) {f : Fin q → Fin q} (hf : Poly n f) (hy : ∀ j, j < n → ys j = f (xs j)) (x : Fin q) :
    interp xs ys ws n x n = f x := by
  have h1 := (interp_poly xs ys ws n n (Nat.le_refl _)).add (hf.smul (-1))
  have h2 := Poly.roots n _ xs h1 hu (fun i hi => by
    show interp xs ys ws n (xs i) n + -1 * f (xs i) = 0
    rw [interp_at xs ys ws n i hi (hw i hi) n (Nat.le_refl _), if_pos hi, hy i hi]
    grind) x
  have h3 : interp xs ys ws n x n + -1 * f x = 0 := h2
  grind
end
end Go.Proofs.Ytgaanndidcdbpaa
/- Plain mathematics: numbers modulo q as elements of Fin q. No program here. -/
namespace Go.Proofs.Ytgaanndidcdbpaa
section
variable {q : Nat} [NeZero q]
def ct (q : Nat) [NeZero q] (n : Nat) : Fin q := Fin.ofNat q n
theorem ct_eq {a b : Nat} : ct q a = ct q b ↔ a % q = b % q := by
  rw [Fin.ext_iff]; exact Iff.rfl
theorem ct_mod (a : Nat) : ct q (a % q) = ct q a := ct_eq.2 (Nat.mod_mod _ _)
theorem ct_add (a b : Nat) : ct q (a + b) = ct q a + ct q b := Fin.ext (Nat.add_mod a b q)
theorem ct_mul (a b : Nat) : ct q (a * b) = ct q a * ct q b := Fin.ext (Nat.mul_mod a b q)
theorem ct_self : ct q q = 0 := Fin.ext (by show q % q = 0 % q; rw [Nat.mod_self, Nat.zero_mod])
theorem ct_zero : ct q 0 = 0 := rfl
theorem ct_one : ct q 1 = 1 := rfl
theorem ct_minus {a b : Nat} (h : b ≤ q) : ct q (a + (q - b)) = ct q a - ct q b := by
  have h1 : ct q (q - b) + ct q b = 0 := by rw [← ct_add, Nat.sub_add_cancel h, ct_self]
  rw [ct_add]
  grind
theorem ct_val (a : Fin q) : ct q a.val = a := Fin.ext (Nat.mod_eq_of_lt a.isLt)
theorem ct_inj {a b : Nat} (ha : a < q) (hb : b < q) (h : ct q a = ct q b) : a = b := by
  rw [ct_eq, Nat.mod_eq_of_lt ha, Nat.mod_eq_of_lt hb] at h; exact h
theorem ct_ne {a b : Nat} (ha : a < q) (hb : b < q) (h : a ≠ b) : ct q a - ct q b ≠ 0 := fun e => h (ct_inj ha hb (by grind))
theorem ct_inv (hq : Prm q) (h64 : q < 2 ^ 64) {a : Nat} (ha : ct q a ≠ 0) : ct q a * ct q (sqm q 64 1 a (q - 2)) = 1 := by
  have hd : ¬ q ∣ a := fun h => ha (by rw [← ct_zero, ct_eq, Nat.zero_mod]; exact Nat.mod_eq_zero_of_dvd h)
  have hf := hq.fermat1 hd
  have h2 := sqm_eq (m := q) 64 1 a (q - 2) (Nat.lt_of_le_of_lt (Nat.sub_le _ _) h64)
  rw [← ct_mod (sqm q 64 1 a (q - 2)), h2, ct_mod, ← ct_mul, ← ct_one, ct_eq, Nat.one_mul, ← Nat.pow_succ', show (q - 2).succ = q - 1 by have := hq.1; omega, hf]
  exact (Nat.mod_eq_of_lt (by have := hq.1; omega)).symm
theorem unt_ne (hq : Prm q) (h64 : q < 2 ^ 64) {a : Fin q} (ha : a ≠ 0) : Unt a := by
  have h := ct_inv hq h64 (a := a.val) (by rw [ct_val]; exact ha)
  rw [ct_val] at h
  exact ⟨_, h⟩
end
end Go.Proofs.Ytgaanndidcdbpaa
/- Plain laws of joining shares. No program here. -/
namespace Go.Proofs.Ytgaanndidcdbpaa
instance nzQ : NeZero 1152921504606845789 := ⟨by decide⟩
def xsF (l : List (Nat × Nat)) (i : Nat) : Fin 1152921504606845789 := ct 1152921504606845789 (l.getD i (0, 0)).1
def ysF (l : List (Nat × Nat)) (i : Nat) : Fin 1152921504606845789 := ct 1152921504606845789 (l.getD i (0, 0)).2
def wsF (l : List (Nat × Nat)) (i : Nat) : Fin 1152921504606845789 := ct 1152921504606845789 (invQ (prodQ l i (l.getD i (0, 0)).1 l.length 1))
def Small (l : List (Nat × Nat)) : Prop := ∀ i, (l.getD i (0, 0)).1 < 1152921504606845789
theorem ct_minusQ {a b : Nat} (h : b < 1152921504606845789) : ct 1152921504606845789 (minusQ a b) = ct 1152921504606845789 a - ct 1152921504606845789 b := by
  unfold minusQ; rw [ct_mod]; exact ct_minus (Nat.le_of_lt h)
theorem ct_prodQ {l : List (Nat × Nat)} (hl : Small l) (i x : Nat) : ∀ (n y : Nat), ct 1152921504606845789 (prodQ l i x n y) = ct 1152921504606845789 y * lag (xsF l) i (ct 1152921504606845789 x) n
  | 0, y => by show ct 1152921504606845789 y = ct 1152921504606845789 y * 1; rw [Fin.mul_one]
  | n + 1, y => by
    by_cases e : n = i
    · show ct 1152921504606845789 (if n = i then prodQ l i x n y else _) = ct 1152921504606845789 y * (if n = i then lag (xsF l) i (ct 1152921504606845789 x) n else _)
      rw [if_pos e, if_pos e]; exact ct_prodQ hl i x n y
    · show ct 1152921504606845789 (if n = i then prodQ l i x n y else _) = ct 1152921504606845789 y * (if n = i then lag (xsF l) i (ct 1152921504606845789 x) n else _)
      rw [if_neg e, if_neg e, ct_mod, ct_mul, ct_prodQ hl i x n y, ct_minusQ (hl n), Fin.mul_assoc]
      rfl
theorem ct_atSum {l : List (Nat × Nat)} (hl : Small l) (x : Nat) : ∀ m, ct 1152921504606845789 (atSum l x m) = interp (xsF l) (ysF l) (wsF l) l.length (ct 1152921504606845789 x) m
  | 0 => rfl
  | m + 1 => by
    show ct 1152921504606845789 ((atSum l x m + atTerm l x m) % 1152921504606845789) = interp (xsF l) (ysF l) (wsF l) l.length (ct 1152921504606845789 x) m + ysF l m * lag (xsF l) m (ct 1152921504606845789 x) l.length * wsF l m
    rw [ct_mod, ct_add, ct_atSum hl x m]
    unfold atTerm
    rw [ct_mod, ct_mul, ct_prodQ hl]
    rfl
theorem atD_lt (l : List (Nat × Nat)) (x : Nat) : atD l x < 1152921504606845789 := by
  unfold atD
  cases l.length with
  | zero => exact (by decide : (0 : Nat) < 1152921504606845789)
  | succ n => exact Nat.mod_lt _ (by decide)
/-- shares with different places -/
structure Nice (l : List (Nat × Nat)) : Prop where
  lo : ∀ s ∈ l, s.1 < 1152921504606845789
  nd : ∀ i j, i < l.length → j < l.length → i ≠ j → (l.getD i (0, 0)).1 ≠ (l.getD j (0, 0)).1
theorem Nice.small {l : List (Nat × Nat)} (h : Nice l) : Small l := fun i => by
  rw [List.getD_eq_getElem?_getD]
  rcases Nat.lt_or_ge i l.length with hi | hi
  · rw [List.getElem?_eq_getElem hi]; exact h.lo _ (List.getElem_mem hi)
  · rw [List.getElem?_eq_none hi]; exact (by decide : (0 : Nat) < 1152921504606845789)
theorem Nice.unt {l : List (Nat × Nat)} (h : Nice l) {i j : Nat} (hi : i < l.length) (hj : j < l.length) (hij : i ≠ j) : Unt (xsF l i - xsF l j) :=
  unt_ne prm_Q (by decide) (ct_ne (h.small i) (h.small j) (h.nd i j hi hj hij))
theorem Unt.ne {q : Nat} [NeZero q] (h1 : (1 : Fin q) ≠ 0) {a : Fin q} (h : Unt a) : a ≠ 0 := by
  rintro rfl
  obtain ⟨b, hb⟩ := h
  exact h1 (by grind)
theorem Nice.inv {l : List (Nat × Nat)} (h : Nice l) {j : Nat} (hj : j < l.length) : lag (xsF l) j (xsF l j) l.length * wsF l j = 1 := by
  have hu := lag_unt (xsF l) j l.length (fun k hk hkj => h.unt hj hk (Ne.symm hkj))
  have e : ct 1152921504606845789 (prodQ l j (l.getD j (0, 0)).1 l.length 1) = lag (xsF l) j (xsF l j) l.length := by
    rw [ct_prodQ h.small, ct_one, Fin.one_mul]; rfl
  have hne := hu.ne (by decide)
  rw [← e] at hne ⊢
  exact ct_inv prm_Q (by decide) hne
/-- the joined value is the polynomial's -/
theorem at_poly {l : List (Nat × Nat)} (h : Nice l) {f : Fin 1152921504606845789 → Fin 1152921504606845789} (hf : Poly l.length f) (hy : ∀ j, j < l.length → ysF l j = f (xsF l j)) (x : Nat) : ct 1152921504606845789 (atD l x) = f (ct 1152921504606845789 x) := by
  unfold atD
  rw [ct_atSum h.small]
  exact interp_eq (fun i j hi hj hij => h.unt hi hj hij) (fun j hj => h.inv hj) hf hy _
/-- the joined value at a share is the share's -/
theorem at_own {l : List (Nat × Nat)} (h : Nice l) {j : Nat} (hj : j < l.length) (hq : (l.getD j (0, 0)).2 < 1152921504606845789) : atD l (l.getD j (0, 0)).1 = (l.getD j (0, 0)).2 := by
  refine ct_inj (atD_lt _ _) hq ?_
  unfold atD
  rw [ct_atSum h.small]
  show interp (xsF l) (ysF l) (wsF l) l.length (xsF l j) l.length = _
  rw [interp_at _ _ _ _ _ hj (h.inv hj) _ (Nat.le_refl _), if_pos hj]
  rfl
theorem hor_ev (x : Nat) : ∀ cs : List Nat, ct 1152921504606845789 (hor cs x) = ev (cs.map (ct 1152921504606845789)) (ct 1152921504606845789 x)
  | [] => rfl
  | c :: r => by
    rw [hor_cons, ct_mod, ct_add, ct_mul, hor_ev x r]
    show _ = ct 1152921504606845789 c + ct 1152921504606845789 x * ev (r.map (ct 1152921504606845789)) (ct 1152921504606845789 x)
    generalize ev (r.map (ct 1152921504606845789)) (ct 1152921504606845789 x) = u
    generalize ct 1152921504606845789 x = v
    generalize ct 1152921504606845789 c = w
    grind
/-- enough shares of a polynomial lead to it -/
theorem at_hor {l : List (Nat × Nat)} (h : Nice l) {cs : List Nat} (hn : cs.length ≤ l.length) (hl : ∀ s ∈ l, s.2 = hor cs s.1) (x : Nat) : atD l x = hor cs x := by
  refine ct_inj (atD_lt _ _) (hor_lt _ _) ?_
  rw [hor_ev]
  refine at_poly h (f := fun z => ev (cs.map (ct 1152921504606845789)) z) ⟨cs.map (ct 1152921504606845789), by simpa using hn, fun _ => rfl⟩ (fun j hj => ?_) x
  show ct 1152921504606845789 _ = ev (cs.map (ct 1152921504606845789)) (ct 1152921504606845789 _)
  rw [← hor_ev, List.getD_eq_getElem?_getD, List.getElem?_eq_getElem hj]
  exact congrArg (ct 1152921504606845789) (hl _ (List.getElem_mem hj))
theorem hor_zero {c : Nat} {cs : List Nat} (hc : c < 1152921504606845789) : hor (c :: cs) 0 = c := by
  rw [hor_cons, Nat.mul_zero, Nat.zero_add, Nat.mod_eq_of_lt hc]
/-- with different places the first shares are the beginning of the list -/
theorem firstD_take : ∀ (l f : List (Nat × Nat)) (t : Nat), (∀ i j, i < (f ++ l).length → j < (f ++ l).length → i ≠ j → ((f ++ l).getD i (0, 0)).1 ≠ ((f ++ l).getD j (0, 0)).1) → l.foldl (firstStep t) f = f ++ l.take (t - f.length)
  | [], f, t, _ => by simp
  | s :: l, f, t, h => by
    rw [List.foldl_cons]
    have hany : f.any (fun u => u.1 == s.1) = false := by
      rw [List.any_eq_false]
      intro u hu e
      obtain ⟨i, hi, rfl⟩ := List.getElem_of_mem hu
      refine h i f.length (by simp; omega) (by simp) (by omega) ?_
      rw [List.getD_eq_getElem?_getD, List.getD_eq_getElem?_getD, List.getElem?_append_left hi, List.getElem?_append_right (Nat.le_refl _), List.getElem?_eq_getElem hi, Nat.sub_self]
      simpa using e
    by_cases ht : f.length < t
    · have e1 : firstStep t f s = f ++ [s] := by unfold firstStep; rw [if_pos ⟨hany, ht⟩]
      rw [e1, firstD_take l (f ++ [s]) t (by rw [List.append_assoc]; exact h), List.append_assoc]
      congr 1
      rw [List.length_append, show t - f.length = (t - (f.length + 1)) + 1 by omega, List.take_succ_cons]
      rfl
    · have e1 : firstStep t f s = f := by unfold firstStep; rw [if_neg (fun hh => ht hh.2)]
      rw [e1, firstD_take l f t (fun i j hi hj hij => ?_), show t - f.length = 0 by omega]
      · simp
      · have e2 : ∀ k, k < (f ++ l).length → ((f ++ l).getD k (0, 0)) = ((f ++ s :: l).getD (if k < f.length then k else k + 1) (0, 0)) := by
          intro k hk
          rw [List.getD_eq_getElem?_getD, List.getD_eq_getElem?_getD]
          by_cases hkf : k < f.length
          · rw [if_pos hkf, List.getElem?_append_left hkf, List.getElem?_append_left hkf]
          · rw [if_neg hkf, List.getElem?_append_right (by omega), List.getElem?_append_right (by omega), show k + 1 - f.length = (k - f.length) + 1 by omega, List.getElem?_cons_succ]
        rw [e2 i hi, e2 j hj]
        simp only [List.length_append, List.length_cons] at hi hj h ⊢
        refine h _ _ ?_ ?_ ?_ <;> (repeat' split) <;> omega
theorem firstD_nice {l : List (Nat × Nat)} (h : Nice l) (t : Nat) : firstD l t = l.take t := by
  unfold firstD
  rw [firstD_take l [] t (by simpa using h.nd)]
  simp
theorem Nice.take {l : List (Nat × Nat)} (h : Nice l) (t : Nat) : Nice (l.take t) := by
  refine ⟨fun s hs => h.lo s (List.mem_of_mem_take hs), fun i j hi hj hij => ?_⟩
  simp only [List.length_take] at hi hj
  have e : ∀ k, k < t → (l.take t).getD k (0, 0) = l.getD k (0, 0) := fun k hk => by
    rw [List.getD_eq_getElem?_getD, List.getD_eq_getElem?_getD, List.getElem?_take, if_pos hk]
  rw [e i (by omega), e j (by omega)]
  exact h.nd i j (by omega) (by omega) hij
/-- shares of a polynomial: joined, they lead to its constant coefficient, or are too few -/
theorem join_hor {l : List (Nat × Nat)} (h : Nice l) {cs : List Nat} (h1 : 1 ≤ cs.length) (h2 : cs.length ≤ 24) (hok : ∀ s ∈ l, shOk s = true) (hl : ∀ s ∈ l, s.2 = hor cs s.1) :
    joinD l (cs.length : Int) = if l.length < cs.length then (0, 230) else (hor cs 0, 0) := by
  unfold joinD
  rw [if_pos ⟨⟨by omega, by omega⟩, List.all_eq_true.2 hok⟩, Int.toNat_natCast, firstD_nice h, List.length_take]
  by_cases hlt : l.length < cs.length
  · rw [if_pos hlt, if_pos (.inl (by omega))]
  · rw [if_neg hlt, if_neg]
    · rw [at_hor (h.take _) (by rw [List.length_take]; omega) (fun s hs => hl s (List.mem_of_mem_take hs))]
    · rintro (hh | hh)
      · omega
      · rw [List.all_eq_false] at hh
        obtain ⟨s, hs, hne⟩ := hh
        refine hne ?_
        rw [at_hor (h.take _) (by rw [List.length_take]; omega) (fun s hs => hl s (List.mem_of_mem_take hs)), hl s hs]
        simp
end Go.Proofs.Ytgaanndidcdbpaa
/- Plain laws of shares that hide the secret. No program here. -/
namespace Go.Proofs.Ytgaanndidcdbpaa
theorem join_all {l : List (Nat × Nat)} (h : Nice l) (h1 : 1 ≤ l.length) (h2 : l.length ≤ 24) (hok : ∀ s ∈ l, shOk s = true) : joinD l (l.length : Int) = (atD l 0, 0) := by
  unfold joinD
  rw [if_pos ⟨⟨by omega, by omega⟩, List.all_eq_true.2 hok⟩, Int.toNat_natCast, firstD_nice h, List.take_length, if_neg]
  rintro (hh | hh)
  · omega
  · rw [List.all_eq_false] at hh
    obtain ⟨s, hs, hne⟩ := hh
    refine hne ?_
    obtain ⟨j, hj, rfl⟩ := List.getElem_of_mem hs
    have hq : (l[j]).2 < 1152921504606845789 := by
      have := hok _ hs
      unfold shOk at this
      simp only [Bool.and_eq_true, decide_eq_true_eq] at this
      exact this.2
    have := at_own h hj (by rw [List.getD_eq_getElem?_getD, List.getElem?_eq_getElem hj]; exact hq)
    rw [List.getD_eq_getElem?_getD, List.getElem?_eq_getElem hj] at this
    simpa using this
section
variable (l : List (Nat × Nat)) (x : Nat)
theorem fst_snoc (y i : Nat) : ((l ++ [(x, y)]).getD i (0, 0)).1 = ((l ++ [(x, 0)]).getD i (0, 0)).1 := by
  rw [List.getD_eq_getElem?_getD, List.getD_eq_getElem?_getD]
  rcases Nat.lt_or_ge i l.length with hi | hi
  · rw [List.getElem?_append_left hi, List.getElem?_append_left hi]
  · rw [List.getElem?_append_right hi, List.getElem?_append_right hi]
    rcases Nat.eq_zero_or_pos (i - l.length) with h | h
    · rw [h]; rfl
    · rw [List.getElem?_eq_none (by simp; omega), List.getElem?_eq_none (by simp; omega)]
theorem xsF_snoc (y : Nat) : xsF (l ++ [(x, y)]) = xsF (l ++ [(x, 0)]) := funext fun i => by unfold xsF; rw [fst_snoc]
theorem prodQ_snoc (y i a : Nat) : ∀ n v, prodQ (l ++ [(x, y)]) i a n v = prodQ (l ++ [(x, 0)]) i a n v
  | 0, v => rfl
  | n + 1, v => by
    show (if n = i then prodQ (l ++ [(x, y)]) i a n v else prodQ (l ++ [(x, y)]) i a n v * minusQ a ((l ++ [(x, y)]).getD n (0, 0)).1 % 1152921504606845789) = (if n = i then prodQ (l ++ [(x, 0)]) i a n v else prodQ (l ++ [(x, 0)]) i a n v * minusQ a ((l ++ [(x, 0)]).getD n (0, 0)).1 % 1152921504606845789)
    rw [prodQ_snoc y i a n v, fst_snoc]
theorem wsF_snoc (y : Nat) : wsF (l ++ [(x, y)]) = wsF (l ++ [(x, 0)]) := funext fun i => by
  unfold wsF
  rw [prodQ_snoc, fst_snoc, List.length_append, List.length_append]
  rfl
theorem ysF_snoc (y i : Nat) (hi : i < l.length) : ysF (l ++ [(x, y)]) i = ysF (l ++ [(x, 0)]) i := by
  unfold ysF
  rw [List.getD_eq_getElem?_getD, List.getD_eq_getElem?_getD, List.getElem?_append_left hi, List.getElem?_append_left hi]
theorem ysF_last (y : Nat) : ysF (l ++ [(x, y)]) l.length = ct 1152921504606845789 y := by
  unfold ysF
  rw [List.getD_eq_getElem?_getD, List.getElem?_append_right (Nat.le_refl _), Nat.sub_self]
  rfl
end
theorem interp_congr {q : Nat} [NeZero q] {xs ys ys' ws : Nat → Fin q} {n : Nat} {x : Fin q} : ∀ m, (∀ i, i < m → ys i = ys' i) → interp xs ys ws n x m = interp xs ys' ws n x m
  | 0, _ => rfl
  | m + 1, h => by
    show interp xs ys ws n x m + ys m * lag xs m x n * ws m = interp xs ys' ws n x m + ys' m * lag xs m x n * ws m
    rw [interp_congr m (fun i hi => h i (by omega)), h m (by omega)]
/-- the secret is a line in the last share -/
theorem hid_line {l : List (Nat × Nat)} {x : Nat} (h : Nice (l ++ [(x, 0)])) (h0 : ∀ i, i < l.length → 1 ≤ (l.getD i (0, 0)).1) :
    ∃ A B : Fin 1152921504606845789, B ≠ 0 ∧ ∀ y, ct 1152921504606845789 (atD (l ++ [(x, y)]) 0) = A + B * ct 1152921504606845789 y := by
  refine ⟨interp (xsF (l ++ [(x, 0)])) (ysF (l ++ [(x, 0)])) (wsF (l ++ [(x, 0)])) (l.length + 1) (ct 1152921504606845789 0) l.length, lag (xsF (l ++ [(x, 0)])) l.length (ct 1152921504606845789 0) (l.length + 1) * wsF (l ++ [(x, 0)]) l.length, ?_, fun y => ?_⟩
  · refine Unt.ne (by decide) (Unt.mul ?_ ?_)
    · have hz : ∀ n, n ≤ l.length → Unt (lag (xsF (l ++ [(x, 0)])) l.length (ct 1152921504606845789 0) n) := by
        intro n
        induction n with
        | zero => exact fun _ => Unt.one
        | succ n ih =>
          intro hn
          show Unt (if n = l.length then _ else lag (xsF (l ++ [(x, 0)])) l.length (ct 1152921504606845789 0) n * (ct 1152921504606845789 0 - xsF (l ++ [(x, 0)]) n))
          rw [if_neg (by omega)]
          refine (ih (by omega)).mul (unt_ne prm_Q (by decide) (ct_ne (by decide) (h.small n) ?_))
          have := h0 n (by omega)
          have e : ((l ++ [(x, 0)]).getD n (0, 0)).1 = (l.getD n (0, 0)).1 := by
            rw [List.getD_eq_getElem?_getD, List.getD_eq_getElem?_getD, List.getElem?_append_left (by omega)]
          omega
      show Unt (if l.length = l.length then lag (xsF (l ++ [(x, 0)])) l.length (ct 1152921504606845789 0) l.length else _)
      rw [if_pos rfl]
      exact hz _ (Nat.le_refl _)
    · have hi := h.inv (j := l.length) (by simp)
      exact ⟨_, (Fin.mul_comm _ _).trans hi⟩
  · have hs : Nice (l ++ [(x, y)]) := by
      refine ⟨fun s hs => ?_, fun i j hi hj hij => ?_⟩
      · rcases List.mem_append.1 hs with e | e
        · exact h.lo s (List.mem_append_left _ e)
        · rw [List.mem_singleton] at e
          rw [e]
          exact h.lo (x, 0) (by simp)
      · rw [fst_snoc, fst_snoc l x y j]
        exact h.nd i j (by simpa using hi) (by simpa using hj) hij
    unfold atD
    rw [ct_atSum hs.small, xsF_snoc, wsF_snoc, List.length_append]
    show interp _ _ _ (l.length + 1) _ l.length + ysF (l ++ [(x, y)]) l.length * lag (xsF (l ++ [(x, 0)])) l.length (ct 1152921504606845789 0) (l.length + 1) * wsF (l ++ [(x, 0)]) l.length = _
    rw [ysF_last, interp_congr _ (fun i hi => ysF_snoc l x y i hi)]
    generalize interp (xsF (l ++ [(x, 0)])) (ysF (l ++ [(x, 0)])) (wsF (l ++ [(x, 0)])) (l.length + 1) (ct 1152921504606845789 0) l.length = u
    generalize lag (xsF (l ++ [(x, 0)])) l.length (ct 1152921504606845789 0) (l.length + 1) = v
    generalize wsF (l ++ [(x, 0)]) l.length = w
    generalize ct 1152921504606845789 y = z
    rw [Fin.mul_comm z v, Fin.mul_assoc, Fin.mul_comm z w, ← Fin.mul_assoc]
def plusQ (a b : Nat) : Nat := (a % 1152921504606845789 + b % 1152921504606845789) % 1152921504606845789
def timesQ (a b : Nat) : Nat := (a % 1152921504606845789) * (b % 1152921504606845789) % 1152921504606845789
/-- the further share that leads to a secret: a, c are the secrets joined with 0 and 1 -/
def hidY (secret a c : Nat) : Nat := timesQ (plusQ secret (1152921504606845789 - a % 1152921504606845789)) (sqm 1152921504606845789 64 1 (plusQ c (1152921504606845789 - a % 1152921504606845789)) (1152921504606845789 - 2))
theorem ct_plusQ (a b : Nat) : ct 1152921504606845789 (plusQ a b) = ct 1152921504606845789 a + ct 1152921504606845789 b := by unfold plusQ; rw [ct_mod, ct_add, ct_mod, ct_mod]
theorem ct_timesQ (a b : Nat) : ct 1152921504606845789 (timesQ a b) = ct 1152921504606845789 a * ct 1152921504606845789 b := by unfold timesQ; rw [ct_mod, ct_mul, ct_mod, ct_mod]
theorem ct_negQ (z a : Nat) : ct 1152921504606845789 (plusQ z (1152921504606845789 - a % 1152921504606845789)) = ct 1152921504606845789 z - ct 1152921504606845789 a := by
  have h := ct_minus (q := 1152921504606845789) (a := z) (b := a % 1152921504606845789) (Nat.le_of_lt (Nat.mod_lt _ (by decide)))
  rw [ct_plusQ, ← ct_add, h, ct_mod]
theorem hid_join {l : List (Nat × Nat)} {x : Nat} (h : Nice (l ++ [(x, 0)])) (h0 : ∀ i, i < l.length → 1 ≤ (l.getD i (0, 0)).1) {secret : Nat} (hs : secret < 1152921504606845789) :
    atD (l ++ [(x, hidY secret (atD (l ++ [(x, 0)]) 0) (atD (l ++ [(x, 1)]) 0))]) 0 = secret := by
  obtain ⟨A, B, hB, hl⟩ := hid_line h h0
  have ha := hl 0
  have hc := hl 1
  have hy := hl (hidY secret (atD (l ++ [(x, 0)]) 0) (atD (l ++ [(x, 1)]) 0))
  generalize atD (l ++ [(x, 0)]) 0 = a at *
  generalize atD (l ++ [(x, 1)]) 0 = c at *
  refine ct_inj (atD_lt _ _) hs ?_
  rw [hy]
  unfold hidY
  have hb : ct 1152921504606845789 (plusQ c (1152921504606845789 - a % 1152921504606845789)) = B := by
    rw [ct_negQ, ha, hc, ct_zero, ct_one, Fin.mul_one, Fin.mul_zero]
    generalize A = u at *
    generalize B = v at *
    rw [Fin.sub_eq_add_neg]
    grind
  have hi := ct_inv prm_Q (by decide) (a := plusQ c (1152921504606845789 - a % 1152921504606845789)) (by rw [hb]; exact hB)
  rw [hb] at hi
  rw [ct_timesQ, ct_negQ, ha, ct_zero, Fin.mul_zero]
  generalize ct 1152921504606845789 (sqm 1152921504606845789 64 1 (plusQ c (1152921504606845789 - a % 1152921504606845789)) (1152921504606845789 - 2)) = iv at *
  generalize ct 1152921504606845789 secret = sc at *
  generalize ct 1152921504606845789 a = a' at *
  generalize ct 1152921504606845789 c = c' at *
  clear hl hy ha hc hb hs h h0 hB
  grind
end Go.Proofs.Ytgaanndidcdbpaa
/- Plain: shares that fit a commitment can be joined, whatever the commitment. -/
namespace Go.Proofs.Ytgaanndidcdbpaa

/-- the power of an element -/
def EL (c k : Nat) : Nat := c ^ k % 2305843009213691579
theorem EL_lt (c k : Nat) : EL c k < 2305843009213691579 := Nat.mod_lt _ (by decide)
theorem EL_zero (c : Nat) : EL c 0 = 1 := by unfold EL; rw [Nat.pow_zero]
theorem EL_add (c a b : Nat) : EL c (a + b) = EL c a * EL c b % 2305843009213691579 := by unfold EL; rw [Nat.pow_add, Nat.mul_mod]
theorem EL_mul (c a b : Nat) : EL c (a * b) = EL (EL c a) b := by unfold EL; rw [← Nat.pow_mod, Nat.pow_mul]
theorem EL_base (a b k : Nat) : EL (a * b % 2305843009213691579) k = EL a k * EL b k % 2305843009213691579 := by unfold EL; rw [← Nat.pow_mod, Nat.mul_pow, Nat.mul_mod]
theorem EL_one (k : Nat) : EL 1 k = 1 := by unfold EL; rw [Nat.one_pow]
section
variable {q : Nat}
theorem EL_mulq {c : Nat} (h : EL c q = 1) (j : Nat) : EL c (q * j) = 1 := by rw [EL_mul, h, EL_one]
theorem EL_modq {c : Nat} (h : EL c q = 1) (k : Nat) : EL c (k % q) = EL c k := by
  conv => rhs; rw [← Nat.div_add_mod k q, EL_add, EL_mulq h, Nat.one_mul, Nat.mod_eq_of_lt (EL_lt _ _)]
theorem EL_cong {c : Nat} (h : EL c q = 1) {a b : Nat} (e : a % q = b % q) : EL c a = EL c b := by rw [← EL_modq h a, e, EL_modq h]
end
/-- the product of the elements of cs with the exponents e -/
def HP : List Nat → (Nat → Nat) → Nat
  | [], _ => 1
  | c :: r, e => EL c (e 0) * HP r (fun j => e (j + 1)) % 2305843009213691579
theorem HP_lt : ∀ (cs : List Nat) (e : Nat → Nat), HP cs e < 2305843009213691579
  | [], _ => by show 1 < _; decide
  | c :: r, e => Nat.mod_lt _ (by decide)
theorem mulmod4 (a b c d p : Nat) : (a * b % p) * (c * d % p) % p = (a * c % p) * (b * d % p) % p := by
  rw [← Nat.mul_mod, ← Nat.mul_mod]
  congr 1
  rw [Nat.mul_assoc, Nat.mul_assoc, Nat.mul_left_comm b c d]
theorem HP_add : ∀ (cs : List Nat) (e f : Nat → Nat), HP cs (fun j => e j + f j) = HP cs e * HP cs f % 2305843009213691579
  | [], _, _ => by show 1 = 1 * 1 % _; decide
  | c :: r, e, f => by
    show EL c (e 0 + f 0) * HP r (fun j => e (j + 1) + f (j + 1)) % _ = (EL c (e 0) * HP r (fun j => e (j + 1)) % _) * (EL c (f 0) * HP r (fun j => f (j + 1)) % _) % _
    rw [EL_add, HP_add r (fun j => e (j + 1)) (fun j => f (j + 1)), mulmod4]
theorem HP_mul : ∀ (cs : List Nat) (e : Nat → Nat) (a : Nat), HP cs (fun j => e j * a) = EL (HP cs e) a
  | [], _, a => by show 1 = EL 1 a; rw [EL_one]
  | c :: r, e, a => by
    show EL c (e 0 * a) * HP r (fun j => e (j + 1) * a) % _ = EL (EL c (e 0) * HP r (fun j => e (j + 1)) % _) a
    rw [EL_base, EL_mul, HP_mul r (fun j => e (j + 1)) a]
theorem HP_cong {q : Nat} : ∀ (cs : List Nat) (e f : Nat → Nat), (∀ c ∈ cs, EL c q = 1) → (∀ j, j < cs.length → e j % q = f j % q) → HP cs e = HP cs f
  | [], _, _, _, _ => rfl
  | c :: r, e, f, h, he => by
    show EL c (e 0) * HP r _ % _ = EL c (f 0) * HP r _ % _
    rw [EL_cong (h c (by simp)) (he 0 (by simp)), HP_cong r (fun j => e (j + 1)) (fun j => f (j + 1)) (fun d hd => h d (by simp [hd])) (fun j hj => he (j + 1) (by simp; omega))]
theorem HP_zero : ∀ (cs : List Nat), HP cs (fun _ => 0) = 1
  | [] => rfl
  | c :: r => by
    show EL c 0 * HP r (fun _ => 0) % _ = 1
    rw [EL_zero, HP_zero r]
theorem el_gen {c k : Nat} (hk : k < 2 ^ 64) (h : pw c k = 1) : EL c k = 1 := by rw [pw_pow hk] at h; exact h
theorem el_of {c : Nat} (h : elOk c = true) : EL c 1152921504606845789 = 1 := by
  unfold elOk at h
  simp only [Bool.and_eq_true] at h
  exact el_gen (by decide) (Nat.eq_of_beq_eq_true h.2)
theorem verP_HP (x : Nat) : ∀ (cs : List Nat) (pr k : Nat), (∀ c ∈ cs, EL c 1152921504606845789 = 1) → pr < 2305843009213691579 → k < 1152921504606845789 → verP cs x pr k = pr * HP cs (fun j => k * x ^ j) % 2305843009213691579
  | [], pr, k, _, hp, _ => by
    show pr = pr * 1 % _
    rw [Nat.mul_one, Nat.mod_eq_of_lt hp]
  | c :: r, pr, k, h, hp, hk => by
    show verP r x (pr * pw c k % 2305843009213691579) (k * x % 1152921504606845789) = _
    rw [verP_HP x r _ _ (fun d hd => h d (by simp [hd])) (Nat.mod_lt _ (by decide)) (Nat.mod_lt _ (by decide)), pw_pow (lt64_Q hk)]
    show (pr * EL c k % 2305843009213691579) * _ % 2305843009213691579 = pr * (EL c (k * x ^ 0) * HP r (fun j => k * x ^ (j + 1)) % 2305843009213691579) % 2305843009213691579
    rw [HP_cong (q := 1152921504606845789) r (fun j => k * x % 1152921504606845789 * x ^ j) (fun j => k * x ^ (j + 1)) (fun d hd => h d (by simp [hd])) (fun j _ => by rw [Nat.mod_mul_mod, Nat.pow_succ, Nat.mul_assoc, Nat.mul_comm (x ^ j) x])]
    rw [Nat.pow_zero, Nat.mul_one, Nat.mod_mul_mod, Nat.mul_mod_mod, Nat.mul_assoc]
def pwF {q : Nat} [NeZero q] (x : Fin q) : Nat → Fin q
  | 0 => 1
  | j + 1 => x * pwF x j
theorem pwF_ct {q : Nat} [NeZero q] (x : Nat) : ∀ j, ct q (x ^ j) = pwF (ct q x) j
  | 0 => rfl
  | j + 1 => by
    show _ = ct q x * pwF (ct q x) j
    rw [Nat.pow_succ, Nat.mul_comm, ct_mul, pwF_ct x j]
theorem pwF_poly {q : Nat} [NeZero q] : ∀ j, Poly (j + 1) (fun x : Fin q => pwF x j)
  | 0 => Poly.one
  | j + 1 => (pwF_poly j).mulX
theorem E4_EL (k : Nat) : E4 k = EL 4 k := rfl
/-- a share that fits -/
theorem ver_HP {cs : List Nat} {s : Nat × Nat} (h : verD cs s = true) : (∀ c ∈ cs, EL c 1152921504606845789 = 1) ∧ shOk s = true ∧ E4 s.2 = HP cs (fun j => s.1 ^ j) ∧ 1 ≤ cs.length ∧ cs.length ≤ 24 := by
  unfold verD at h
  simp only [Bool.and_eq_true] at h
  obtain ⟨⟨h1, h2⟩, h3⟩ := h
  obtain ⟨l1, l2, he⟩ := all_mem h1
  have hel : ∀ c ∈ cs, EL c 1152921504606845789 = 1 := fun c hc => el_of (he c hc)
  have h3 := Nat.eq_of_beq_eq_true h3
  unfold shOk at h2
  have h2' := h2
  simp only [Bool.and_eq_true, decide_eq_true_eq] at h2
  rw [verP_HP _ _ _ _ hel (by decide) (by decide), pw_E4 (lt64_Q h2.2)] at h3
  refine ⟨hel, h2', ?_, l1, l2⟩
  rw [h3, Nat.one_mul, Nat.mod_eq_of_lt (HP_lt _ _)]
  congr 1
  funext j
  rw [Nat.one_mul]
section
variable {cs : List Nat} {xs ys ws : Nat → Fin 1152921504606845789} {n : Nat} {x : Fin 1152921504606845789}
theorem interp_HP (hel : ∀ c ∈ cs, EL c 1152921504606845789 = 1) (hy : ∀ i, i < n → E4 (ys i).val = HP cs (fun j => (pwF (xs i) j).val)) : ∀ m, m ≤ n → E4 (interp xs ys ws n x m).val = HP cs (fun j => (interp xs (fun i => pwF (xs i) j) ws n x m).val)
  | 0, _ => by
    show E4 (0 : Fin 1152921504606845789).val = HP cs (fun _ => (0 : Fin 1152921504606845789).val)
    rw [show (0 : Fin 1152921504606845789).val = 0 from rfl, E4_zero, HP_zero]
  | m + 1, hm => by
    have ih := interp_HP hel hy m (by omega)
    have hE : ∀ (a b : Fin 1152921504606845789), (a + b).val = (a.val + b.val) % 1152921504606845789 := fun _ _ => rfl
    have hM : ∀ (a b : Fin 1152921504606845789), (a * b).val = (a.val * b.val) % 1152921504606845789 := fun _ _ => rfl
    show E4 (interp xs ys ws n x m + ys m * lag xs m x n * ws m).val = HP cs (fun j => (interp xs (fun i => pwF (xs i) j) ws n x m + pwF (xs m) j * lag xs m x n * ws m).val)
    have e1 : E4 (interp xs ys ws n x m + ys m * lag xs m x n * ws m).val = E4 (interp xs ys ws n x m).val * EL (E4 (ys m).val) ((lag xs m x n).val * (ws m).val) % 2305843009213691579 := by
      rw [hE, E4_mod, E4_add, hM, E4_mod, hM]
      rw [show E4 ((ys m).val * (lag xs m x n).val % 1152921504606845789 * (ws m).val) = EL (E4 (ys m).val) ((lag xs m x n).val * (ws m).val) from ?_]
      rw [E4_EL (ys m).val, ← EL_mul, ← E4_EL, ← E4_mod, Nat.mod_mul_mod, E4_mod, Nat.mul_assoc]
    rw [e1, ih, hy m (by omega), ← HP_mul, ← HP_add]
    refine HP_cong (q := 1152921504606845789) _ _ _ hel fun j _ => ?_
    rw [hE, hM, hM, Nat.mod_mod, Nat.mod_mul_mod, Nat.add_mod_mod, Nat.mul_assoc]
end
/-- the joined value fits the commitment -/
theorem at_ver {l : List (Nat × Nat)} (h : Nice l) {cs : List Nat} (hn : cs.length ≤ l.length) (hv : ∀ s ∈ l, verD cs s = true) (h1 : 1 ≤ l.length) {x : Nat} : E4 (atD l x) = HP cs (fun j => x ^ j) := by
  have hs0 : ∀ i, i < l.length → verD cs (l.getD i (0, 0)) = true := fun i hi => by
    rw [List.getD_eq_getElem?_getD, List.getElem?_eq_getElem hi]; exact hv _ (List.getElem_mem hi)
  obtain ⟨hel, -, -, -, -⟩ := ver_HP (hs0 0 h1)
  have hv2 : (ct 1152921504606845789 (atD l x)).val = atD l x := Nat.mod_eq_of_lt (atD_lt _ _)
  rw [← hv2]
  unfold atD
  rw [ct_atSum h.small, interp_HP hel (fun i hi => ?_) _ (Nat.le_refl _)]
  · refine HP_cong (q := 1152921504606845789) _ _ _ hel fun j hj => ?_
    rw [interp_eq (fun i j hi hj hij => h.unt hi hj hij) (fun j hj => h.inv hj) ((pwF_poly j).mono (m := l.length) (by omega)) (fun i _ => rfl), ← pwF_ct]
    show x ^ j % _ % _ = _
    rw [Nat.mod_mod]
  · obtain ⟨-, hsh, he, -, -⟩ := ver_HP (hs0 i hi)
    unfold shOk at hsh
    simp only [Bool.and_eq_true, decide_eq_true_eq] at hsh
    have e : (ysF l i).val = (l.getD i (0, 0)).2 := Nat.mod_eq_of_lt hsh.2
    rw [e, he]
    refine HP_cong (q := 1152921504606845789) _ _ _ hel fun j _ => ?_
    show _ = (pwF (ct 1152921504606845789 (l.getD i (0, 0)).1) j).val % _
    rw [← pwF_ct]
    show _ = _ % _ % _
    rw [Nat.mod_mod]
/-- shares that fit, with different places: joined, or too few -/
theorem join_ver {l : List (Nat × Nat)} (h : Nice l) {cs : List Nat} (h1 : 1 ≤ cs.length) (h2 : cs.length ≤ 24) (hv : ∀ s ∈ l, verD cs s = true) (hn : cs.length ≤ l.length) :
    joinD l (cs.length : Int) = (atD (l.take cs.length) 0, 0) := by
  have hok : ∀ s ∈ l, shOk s = true := fun s hs => (ver_HP (hv s hs)).2.1
  unfold joinD
  rw [if_pos ⟨⟨by omega, by omega⟩, List.all_eq_true.2 hok⟩, Int.toNat_natCast, firstD_nice h, List.length_take]
  rw [if_neg]
  rintro (hh | hh)
  · omega
  · rw [List.all_eq_false] at hh
    obtain ⟨s, hs, hne⟩ := hh
    refine hne ?_
    obtain ⟨hel, hsh, he, -, -⟩ := ver_HP (hv s hs)
    unfold shOk at hsh
    simp only [Bool.and_eq_true, decide_eq_true_eq] at hsh
    have hE := at_ver (h.take cs.length) (cs := cs) (by rw [List.length_take]; omega) (fun s hs => hv s (List.mem_of_mem_take hs)) (by rw [List.length_take]; omega) (x := s.1)
    rw [← he] at hE
    rw [beq_iff_eq]
    exact E4_inj (atD_lt _ _) hsh.2 hE
end Go.Proofs.Ytgaanndidcdbpaa
