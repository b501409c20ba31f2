/- Plain mathematics: the order of the group is prime. No program here. -/
import Derived.Test.YtpcodholllaceaaM2
namespace Go.Proofs.Ytpcodholllaceaa
theorem pock {N q c a : Nat} (hq : Prm q) (hN : N = q * c + 1) (hc : 0 < c) (hs : N < q * q) (h64 : N < 18446744073709551616) (h1 : sqm N 64 1 a (N - 1) % N = 1) (h2 : Nat.gcd (sqm N 64 1 a c % N + (N - 1)) N = 1) : Prm N := by
  have hq2 := hq.1
  have hcN : c ≤ N := by rw [hN]; exact Nat.le_succ_of_le (Nat.le_mul_of_pos_left _ (by omega))
  exact pocklington hq hN hc hs (by rw [powm_sq (by omega)]; exact h1) (by rw [powm_sq (by omega)]; exact h2)
theorem prm_s : Prm 5671741379 := prm_trial (n := 17) (by decide +kernel) (by decide +kernel) (by decide +kernel)
theorem prm_r : Prm 288230376151711447 := pock (q := 5671741379) (c := 50818674) (a := 2) prm_s (by decide +kernel) (by decide +kernel) (by decide +kernel) (by decide +kernel) (by decide +kernel) (by decide +kernel)
theorem prm_Q : Prm 1152921504606845789 := pock (q := 288230376151711447) (c := 4) (a := 2) prm_r (by decide +kernel) (by decide +kernel) (by decide +kernel) (by decide +kernel) (by decide +kernel) (by decide +kernel)
end Go.Proofs.Ytpcodholllaceaa
