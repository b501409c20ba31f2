/- Plain mathematics: numbers modulo q as elements of Fin q. No program here. -/
import Derived.Test.YtpcodholllaceaaM2
import Derived.Test.YtpcodholllaceaaM4
namespace Go.Proofs.Ytpcodholllaceaa
section
variable {q : Nat} [NeZero q]
def ct (q : Nat) [NeZero q] (n : Nat) : Fin q := Fin.ofNat q n
theorem ct_eq {a b : Nat} : ct q a = ct q b ↔ a % q = b % q := by
  rw [Fin.ext_iff]; exact Iff.rfl
theorem ct_mod (a : Nat) : ct q (a % q) = ct q a := ct_eq.2 (Nat.mod_mod _ _)
theorem ct_add (a b : Nat) : ct q (a + b) = ct q a + ct q b := Fin.ext (Nat.add_mod a b q)
theorem ct_mul (a b : Nat) : ct q (a * b) = ct q a * ct q b := Fin.ext (Nat.mul_mod a b q)
theorem ct_self : ct q q = 0 := Fin.ext (by show q % q = 0 % q; rw [Nat.mod_self, Nat.zero_mod])
theorem ct_zero : ct q 0 = 0 := rfl
theorem ct_one : ct q 1 = 1 := rfl
theorem ct_minus {a b : Nat} (h : b ≤ q) : ct q (a + (q - b)) = ct q a - ct q b := by
  have h1 : ct q (q - b) + ct q b = 0 := by rw [← ct_add, Nat.sub_add_cancel h, ct_self]
  rw [ct_add]
  grind
theorem ct_val (a : Fin q) : ct q a.val = a := Fin.ext (Nat.mod_eq_of_lt a.isLt)
theorem ct_inj {a b : Nat} (ha : a < q) (hb : b < q) (h : ct q a = ct q b) : a = b := by
  rw [ct_eq, Nat.mod_eq_of_lt ha, Nat.mod_eq_of_lt hb] at h; exact h
theorem ct_ne {a b : Nat} (ha : a < q) (hb : b < q) (h : a ≠ b) : ct q a - ct q b ≠ 0 := fun e => h (ct_inj ha hb (by grind))
theorem ct_inv (hq : Prm q) (h64 : q < 2 ^ 64) {a : Nat} (ha : ct q a ≠ 0) : ct q a * ct q (sqm q 64 1 a (q - 2)) = 1 := by
  have hd : ¬ q ∣ a := fun h => ha (by rw [← ct_zero, ct_eq, Nat.zero_mod]; exact Nat.mod_eq_zero_of_dvd h)
  have hf := hq.fermat1 hd
  have h2 := sqm_eq (m := q) 64 1 a (q - 2) (Nat.lt_of_le_of_lt (Nat.sub_le _ _) h64)
  rw [← ct_mod (sqm q 64 1 a (q - 2)), h2, ct_mod, ← ct_mul, ← ct_one, ct_eq, Nat.one_mul, ← Nat.pow_succ', show (q - 2).succ = q - 1 by have := hq.1; omega, hf]
  exact (Nat.mod_eq_of_lt (by have := hq.1; omega)).symm
theorem unt_ne (hq : Prm q) (h64 : q < 2 ^ 64) {a : Fin q} (ha : a ≠ 0) : Unt a := by
  have h := ct_inv hq h64 (a := a.val) (by rw [ct_val]; exact ha)
  rw [ct_val] at h
  exact ⟨_, h⟩
end
end Go.Proofs.Ytpcodholllaceaa
