/- Plain laws of powers modulo P and of the polynomial's value. No program here. -/
import Derived.Test.YtpcodholllaceaaS1
import Derived.Test.YtpcodholllaceaaM3
namespace Go.Proofs.Ytpcodholllaceaa
section
variable {p : Nat}
/-- the power by squaring is the power -/
theorem sqm_pow (hp : 1 < p) {a k : Nat} (hk : k < 2 ^ 64) : sqm p 64 1 (a % p) k = a ^ k % p := by
  have h := sqm_eq (m := p) 64 1 (a % p) k hk
  rw [Nat.mod_eq_of_lt (sqm_lt hp 64 1 (a % p) k hp), Nat.one_mul, ← Nat.pow_mod] at h
  exact h
end
theorem pw_pow {a k : Nat} (hk : k < 2 ^ 64) : pw a k = a ^ k % 2305843009213691579 := sqm_pow (by decide) hk
theorem pw_add {a k m : Nat} (h : k + m < 2 ^ 64) : pw a k * pw a m % 2305843009213691579 = pw a (k + m) := by
  rw [pw_pow (by omega), pw_pow (by omega), pw_pow h, ← Nat.mul_mod, Nat.pow_add]
/-- the powers of 4, at whatever exponent -/
def E4 (k : Nat) : Nat := 4 ^ k % 2305843009213691579
theorem pw_E4 {k : Nat} (hk : k < 2 ^ 64) : pw 4 k = E4 k := pw_pow hk
theorem E4_Q : E4 1152921504606845789 = 1 := by rw [← pw_E4 (by decide)]; decide +kernel
theorem E4_one : E4 1 = 4 := by rw [← pw_E4 (by decide)]; decide +kernel
theorem E4_zero : E4 0 = 1 := by rw [← pw_E4 (by decide)]; decide +kernel
theorem E4_lt (k : Nat) : E4 k < 2305843009213691579 := Nat.mod_lt _ (by decide)
theorem E4_add (a b : Nat) : E4 (a + b) = E4 a * E4 b % 2305843009213691579 := by unfold E4; rw [Nat.pow_add, Nat.mul_mod]
theorem E4_pow (a b : Nat) : E4 a ^ b % 2305843009213691579 = E4 (a * b) := by unfold E4; rw [← Nat.pow_mod, Nat.pow_mul]
section
variable {q : Nat} (hq : E4 q = 1)
include hq
theorem E4_mulq (j : Nat) : E4 (q * j) = 1 := by
  induction j with
  | zero => exact E4_zero
  | succ j ih => rw [Nat.mul_succ, E4_add, ih, hq]
theorem E4_modq (k : Nat) : E4 (k % q) = E4 k := by
  conv => rhs; rw [← Nat.div_add_mod k q, E4_add, E4_mulq hq, Nat.one_mul, Nat.mod_eq_of_lt (E4_lt _)]
theorem E4_inj' (hp : Prm q) {a b : Nat} (hab : a ≤ b) (hb : b < q) (h : E4 a = E4 b) : a = b := by
  refine Classical.byContradiction fun hne => ?_
  have e1 : E4 (q - a + b) = E4 (q - a + a) := by rw [E4_add, ← h, ← E4_add]
  rw [Nat.sub_add_cancel (by omega), hq, show q - a + b = q * 1 + (b - a) by omega, E4_add, E4_mulq hq, Nat.one_mul, Nat.mod_eq_of_lt (E4_lt _)] at e1
  have hg : Nat.gcd q (b - a) = 1 := hp.coprime fun hd => by have := Nat.le_of_dvd (by omega) hd; omega
  have h3 := pow_gcd_one (m := 2305843009213691579) (a := 4) q (b - a) (hq.trans (by decide)) (e1.trans (by decide))
  rw [hg] at h3
  exact absurd h3 (by decide)
end
theorem E4_mod (k : Nat) : E4 (k % 1152921504606845789) = E4 k := E4_modq E4_Q k
theorem E4_inj {a b : Nat} (ha : a < 1152921504606845789) (hb : b < 1152921504606845789) (h : E4 a = E4 b) : a = b := by
  rcases Nat.le_total a b with hab | hab
  · exact E4_inj' E4_Q prm_Q hab hb h
  · exact (E4_inj' E4_Q prm_Q hab ha h.symm).symm
theorem E4_congr {a b : Nat} (h : a % 1152921504606845789 = b % 1152921504606845789) : E4 a = E4 b := by rw [← E4_mod a, h, E4_mod]
theorem lt64_Q {c : Nat} (h : c < 1152921504606845789) : c < 2 ^ 64 := Nat.lt_trans h (by decide)
theorem pw_E4' {c k : Nat} (hk : k < 2 ^ 64) : pw (E4 c) k = E4 (c * k) := by rw [pw_pow hk, E4_pow]
theorem hor_lt (cs : List Nat) (x : Nat) : hor cs x < 1152921504606845789 := by
  cases cs with
  | nil => exact (by decide : (0 : Nat) < 1152921504606845789)
  | cons c r => exact Nat.mod_lt _ (by decide)
theorem hor_cons (c : Nat) (cs : List Nat) (x : Nat) : hor (c :: cs) x = (hor cs x * x + c) % 1152921504606845789 := by unfold hor; rw [List.foldr_cons, Nat.mod_add_mod]
/-- the powers of 4 are elements -/
theorem el_pw {c : Nat} (hc : c < 1152921504606845789) : elOk (pw 4 c) = true := by
  rw [pw_E4 (lt64_Q hc)]
  have h1 : pw (E4 c) 1152921504606845789 = 1 := by rw [pw_E4' (by decide), Nat.mul_comm]; exact E4_mulq E4_Q c
  have h0 : 1 ≤ E4 c := Nat.pos_of_ne_zero fun e => by rw [e] at h1; exact absurd h1 (by decide +kernel)
  unfold elOk
  rw [h1, decide_eq_true h0, decide_eq_true (E4_lt c)]
  rfl
theorem verP_pw (x : Nat) : ∀ (cs : List Nat) (pr k : Nat), (∀ c ∈ cs, c < 1152921504606845789) → pr < 2305843009213691579 → k < 1152921504606845789 → verP (cs.map (pw 4)) x pr k = pr * E4 (k * hor cs x) % 2305843009213691579
  | [], pr, k, _, hp, _ => by
    show pr = pr * E4 (k * 0) % 2305843009213691579
    rw [Nat.mul_zero, E4_zero, Nat.mul_one, Nat.mod_eq_of_lt hp]
  | c :: r, pr, k, hc, hp, hk => by
    have hc0 := hc c (by simp)
    show verP (r.map (pw 4)) x (pr * pw (pw 4 c) k % 2305843009213691579) (k * x % 1152921504606845789) = _
    rw [verP_pw x r _ _ (fun d hd => hc d (by simp [hd])) (Nat.mod_lt _ (by decide)) (Nat.mod_lt _ (by decide)), pw_E4 (lt64_Q hc0), pw_E4' (lt64_Q hk)]
    rw [Nat.mod_mul_mod, Nat.mul_assoc, ← Nat.mul_mod_mod, ← E4_add]
    congr 2
    refine E4_congr ?_
    rw [hor_cons, Nat.mul_mod_mod, Nat.add_mod, Nat.mod_mul_mod, ← Nat.add_mod]
    congr 1
    rw [Nat.mul_add, Nat.mul_comm c k, Nat.add_comm, Nat.mul_assoc, Nat.mul_comm x]
theorem all_mem {ok : Nat → Bool} {l : List Nat} (h : allD ok l = true) : 1 ≤ l.length ∧ l.length ≤ 24 ∧ ∀ c ∈ l, ok c = true := by
  unfold allD lenOk at h
  simp only [Bool.and_eq_true, decide_eq_true_eq, List.all_eq_true] at h
  exact ⟨h.1.1, h.1.2, h.2⟩
theorem all_pw {cs : List Nat} (h : allD coefOk cs = true) : allD elOk (cs.map (pw 4)) = true := by
  obtain ⟨h1, h2, h3⟩ := all_mem h
  unfold allD lenOk
  rw [List.length_map, decide_eq_true h1, decide_eq_true h2]
  simp only [Bool.true_and, List.all_map, List.all_eq_true]
  intro c hc
  exact el_pw (of_decide_eq_true (h3 c hc))
/-- a share fits the powers exactly if it lies on the polynomial -/
theorem ver_pw {cs : List Nat} (h : allD coefOk cs = true) {x y : Nat} (hx : 1 ≤ x) (hx2 : x ≤ 192) : verD (cs.map (pw 4)) (x, y) = decide (y = hor cs x) := by
  have h3 : ∀ c ∈ cs, c < 1152921504606845789 := fun c hc => of_decide_eq_true ((all_mem h).2.2 c hc)
  unfold verD
  rw [all_pw h, verP_pw x cs 1 1 h3 (by decide) (by decide), Nat.one_mul, Nat.one_mul, Nat.mod_eq_of_lt (E4_lt _), Bool.true_and]
  by_cases hy : y < 1152921504606845789
  · have hs : shOk (x, y) = true := by unfold shOk; rw [decide_eq_true hx, decide_eq_true hx2, decide_eq_true hy]; rfl
    rw [hs, Bool.true_and]
    show Nat.beq (pw 4 y) _ = _
    rw [pw_E4 (lt64_Q hy), Bool.eq_iff_iff, Nat.beq_eq, decide_eq_true_eq]
    exact ⟨fun e => E4_inj hy (hor_lt _ _) e, fun e => by rw [e]⟩
  · have hs : shOk (x, y) = false := by unfold shOk; rw [decide_eq_false (p := y < 1152921504606845789) hy]; simp
    rw [hs, Bool.false_and]
    exact (decide_eq_false fun e => hy (by rw [e]; exact hor_lt _ _)).symm
/-- sums of polynomials -/
theorem hor_add (x : Nat) : ∀ (a b : List Nat), a.length = b.length → hor (List.zipWith (fun c d => (c + d) % 1152921504606845789) a b) x = (hor a x + hor b x) % 1152921504606845789
  | [], [], _ => rfl
  | c :: a, d :: b, h => by
    rw [List.zipWith_cons_cons, hor_cons, hor_cons, hor_cons, hor_add x a b (by simpa using h)]
    rw [Nat.add_mod_mod, Nat.add_mod, Nat.mod_mul_mod, ← Nat.add_mod]
    rw [← Nat.add_mod]
    congr 1
    rw [Nat.add_mul]
    omega
theorem pw4_add {a b : Nat} (ha : a < 1152921504606845789) (hb : b < 1152921504606845789) : pw 4 ((a + b) % 1152921504606845789) = pw 4 a * pw 4 b % 2305843009213691579 := by
  rw [pw_E4 (lt64_Q (Nat.mod_lt _ (by decide))), E4_mod, E4_add, pw_E4 (lt64_Q ha), pw_E4 (lt64_Q hb)]
theorem pw4_mod {k : Nat} (hk : k < 2 ^ 64) : pw 4 (k % 1152921504606845789) = pw 4 k := by
  rw [pw_E4 (lt64_Q (Nat.mod_lt _ (by decide))), E4_mod, pw_E4 hk]
theorem pw4_mul {k m : Nat} (hk : k < 2 ^ 64) : pw (pw 4 k) (m % 1152921504606845789) = pw 4 ((k % 1152921504606845789) * (m % 1152921504606845789) % 1152921504606845789) := by
  rw [pw_E4 hk, pw_E4' (lt64_Q (Nat.mod_lt _ (by decide))), pw_E4 (lt64_Q (Nat.mod_lt _ (by decide)))]
  refine E4_congr ?_
  rw [Nat.mod_mod, Nat.mod_mul_mod]
theorem pw_one (a : Nat) : pw a 1 = a % 2305843009213691579 := by rw [pw_pow (by decide), Nat.pow_one]
theorem pw_zero (a : Nat) : pw a 0 = 1 := by rw [pw_pow (by decide), Nat.pow_zero]
end Go.Proofs.Ytpcodholllaceaa
