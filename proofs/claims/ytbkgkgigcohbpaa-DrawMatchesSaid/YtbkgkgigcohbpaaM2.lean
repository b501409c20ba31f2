/- The count of ones by adding halves (64 bits), for numbers below 2^16. No program here. -/
import Derived.Test.YtbkgkgigcohbpaaM1
import Derived.Laws.Bits64b
import Derived.Test.YtbkgkgigcohbpaaBit
import Derived.KernelRfl
namespace Go.Proofs.Ytbkgkgigcohbpaa
def oA (x : Nat) : Nat := Nat.mod (Nat.add (Nat.land (Nat.div x 2) 6148914691236517205) (Nat.land x 6148914691236517205)) 18446744073709551616
def oB (x : Nat) : Nat := Nat.mod (Nat.add (Nat.land (Nat.div x 4) 3689348814741910323) (Nat.land x 3689348814741910323)) 18446744073709551616
def oC (x : Nat) : Nat := Nat.land (Nat.mod (Nat.add (Nat.div x 16) x) 18446744073709551616) 1085102592571150095
def oD (x : Nat) : Nat := Nat.mod (Nat.add x (Nat.div x 256)) 18446744073709551616
def oE (x : Nat) : Nat := Nat.mod (Nat.add x (Nat.div x 65536)) 18446744073709551616
def oF (x : Nat) : Nat := Nat.mod (Nat.add x (Nat.div x 4294967296)) 18446744073709551616
def oZ (x : Nat) : Nat := Nat.mod (oF (oE (oD (oC (oB (oA x)))))) 128
/-- the law at 2^d numbers from s on; c: the count of s -/
def okO : Nat → Nat → Nat → Bool
  | 0, s, c => Nat.beq (oZ s) c
  | d + 1, s, c => match okO d s c with | true => okO d (Nat.add s (Nat.pow 2 d)) (Nat.add c 1) | false => false
theorem okO_succ (d s c : Nat) : okO (d + 1) s c = true → okO d s c = true ∧ okO d (s + 2 ^ d) (c + 1) = true := by
  intro h
  unfold okO at h
  cases e : okO d s c <;> rw [e] at h
  · cases h
  · exact ⟨rfl, h⟩
theorem okO_at : ∀ d s x c, okO d s c = true → d ≤ 16 → (∃ q, s = 2 ^ d * q) → c = pcn s 16 → s ≤ x → x < s + 2 ^ d → oZ x = pcn x 16
  | 0, s, x, c, h, _, _, hc, h1, h2 => by
    have : x = s := by simp at h2; omega
    subst this
    rw [← hc]
    exact Nat.eq_of_beq_eq_true h
  | d + 1, s, x, c, h, hd, hq, hc, h1, h2 => by
    have h := okO_succ d s c h
    obtain ⟨q, hq⟩ := hq
    have hq' : s = 2 ^ d * (2 * q) := by rw [hq, Nat.pow_succ, Nat.mul_assoc]
    have hb : s.testBit d = false := by
      rw [Nat.testBit_eq_decide_div_mod_eq, hq', Nat.mul_div_cancel_left _ (Nat.two_pow_pos d), Nat.mul_mod_right]; rfl
    rcases Nat.lt_or_ge x (s + 2 ^ d) with h3 | h3
    · exact okO_at d s x c h.1 (by omega) ⟨2 * q, hq'⟩ hc h1 h3
    · refine okO_at d (s + 2 ^ d) x (c + 1) h.2 (by omega) ⟨2 * q + 1, by rw [hq', Nat.mul_succ]⟩ ?_ h3 (by rw [Nat.pow_succ] at h2; omega)
      rw [← wth_add hb, pcn_wth hb, if_pos (by omega), hc]
theorem ok_all : okO 16 0 0 = true := by kernel_rfl
theorem iA (x : Nat) (hx : x < 18446744073709551616) : IntKind.u64.wrap (bits .and .u64 ((x : Int) / 2) 6148914691236517205 + bits .and .u64 (x : Int) 6148914691236517205) = (oA x : Int) := by
  have e1 := bits_and_u64_nat (x / 2) 6148914691236517205 (by omega) (by omega)
  have e2 := bits_and_u64_nat x 6148914691236517205 (by omega) (by omega)
  have e3 : ((x / 2 : Nat) : Int) = (x : Int) / 2 := by omega
  rw [e3] at e1
  exact (congrArg IntKind.u64.wrap (congr (congrArg (fun a b : Int => a + b) e1) e2)).trans ((congrArg IntKind.u64.wrap (by exact (Int.natCast_add _ _).symm)).trans (wrap_u64_nat _))
theorem iB (x : Nat) (hx : x < 18446744073709551616) : IntKind.u64.wrap (bits .and .u64 ((x : Int) / 4) 3689348814741910323 + bits .and .u64 (x : Int) 3689348814741910323) = (oB x : Int) := by
  have e1 := bits_and_u64_nat (x / 4) 3689348814741910323 (by omega) (by omega)
  have e2 := bits_and_u64_nat x 3689348814741910323 (by omega) (by omega)
  have e3 : ((x / 4 : Nat) : Int) = (x : Int) / 4 := by omega
  rw [e3] at e1
  exact (congrArg IntKind.u64.wrap (congr (congrArg (fun a b : Int => a + b) e1) e2)).trans ((congrArg IntKind.u64.wrap (by exact (Int.natCast_add _ _).symm)).trans (wrap_u64_nat _))
theorem iC (x : Nat) : bits .and .u64 (IntKind.u64.wrap ((x : Int) / 16 + (x : Int))) 1085102592571150095 = (oC x : Int) := by
  have e : IntKind.u64.wrap ((x : Int) / 16 + (x : Int)) = (((x / 16 + x) % 18446744073709551616 : Nat) : Int) := by rw [IntKind.wrap_u64]; omega
  rw [e]
  exact bits_and_u64_nat _ 1085102592571150095 (Nat.mod_lt _ (by omega)) (by omega)
theorem iD (x : Nat) : IntKind.u64.wrap ((x : Int) + (x : Int) / 256) = (oD x : Int) := by
  have e : oD x = (x + x / 256) % 18446744073709551616 := rfl
  rw [IntKind.wrap_u64, e]; omega
theorem iE (x : Nat) : IntKind.u64.wrap ((x : Int) + (x : Int) / 65536) = (oE x : Int) := by
  have e : oE x = (x + x / 65536) % 18446744073709551616 := rfl
  rw [IntKind.wrap_u64, e]; omega
theorem iF (x : Nat) : IntKind.u64.wrap ((x : Int) + (x : Int) / 4294967296) = (oF x : Int) := by
  have e : oF x = (x + x / 4294967296) % 18446744073709551616 := rfl
  rw [IntKind.wrap_u64, e]; omega
theorem oA_lt (x : Nat) : oA x < 18446744073709551616 := Nat.mod_lt _ (by omega)
theorem oF_lt (x : Nat) : oF (oE (oD (oC x))) < 9223372036854775808 := by
  have h : oC x ≤ 1085102592571150095 := Nat.and_le_right
  generalize oC x = c at h
  have e1 : oD c ≤ c + c / 256 := Nat.mod_le _ _
  have e2 : oE (oD c) ≤ oD c + oD c / 65536 := Nat.mod_le _ _
  have e3 : oF (oE (oD c)) ≤ oE (oD c) + oE (oD c) / 4294967296 := Nat.mod_le _ _
  omega
theorem oZ_and (y : Nat) (h : y < 9223372036854775808) : bits .and .i64 (y : Int) 127 = ((y % 128 : Nat) : Int) := by
  rw [show (127 : Int) = ((127 : Nat) : Int) from rfl, bits_and_i64_nat y 127 h (by omega), show 127 = 2 ^ 7 - 1 from rfl, Nat.and_two_pow_sub_one_eq_mod]
end Go.Proofs.Ytbkgkgigcohbpaa
