import Derived.Test.YtbkgkgigcohbpaaC5
import Derived.Test.YtbkgkgigcohbpaaM3
import Derived.Test.YtbkgkgigcohbpaaBit
namespace Go.Proofs.Ytbkgkgigcohbpaa
open Go.RowKit
theorem pow_wrap' {k : Nat} (h : k < 16) : wrap64 (2 ^ k) = ((2 ^ k : Nat) : Int) := by
  have e2 : 2 ^ k ≤ 2 ^ 15 := Nat.pow_le_pow_right (by omega) (by omega)
  have e0 := Nat.two_pow_pos k
  have := pow_wrap (n := k) (F := 2 ^ k - 1) (by omega) (by omega)
  rw [this]; omega
theorem band_no {s k : Nat} (hs : s < 65536) (hk : k < 16) (h : s.testBit k = false) : bits .and .i64 (s : Int) (wrap64 (2 ^ k)) = 0 := by
  have e2 : 2 ^ k ≤ 2 ^ 15 := Nat.pow_le_pow_right (by omega) (by omega)
  rw [pow_wrap' hk, bits_and_i64_nat _ _ (by omega) (by omega), and_pow, h]
  rfl
theorem band_yes {s k : Nat} (hs : s < 65536) (hk : k < 16) (h : s.testBit k = true) : ∃ P : Nat, bits .and .i64 (s : Int) (wrap64 (2 ^ k)) = (P : Int) ∧ ¬ (P : Int) = 0 := by
  have e2 : 2 ^ k ≤ 2 ^ 15 := Nat.pow_le_pow_right (by omega) (by omega)
  have e0 := Nat.two_pow_pos k
  refine ⟨2 ^ k, ?_, by omega⟩
  rw [pow_wrap' hk, bits_and_i64_nat _ _ (by omega) (by omega), and_pow, h, if_pos rfl]
theorem bor_wth {s k : Nat} (hs : s < 65536) (hk : k < 16) : bits .or .i64 (s : Int) (wrap64 (2 ^ k)) = ((wth s k : Nat) : Int) := by
  have e2 : 2 ^ k ≤ 2 ^ 15 := Nat.pow_le_pow_right (by omega) (by omega)
  rw [pow_wrap' hk, bits_or_i64_nat _ _ (by omega) (by omega)]
  rfl
theorem wrap_pow2 {k : Nat} (h : k < 16) : IntKind.i64.wrap (2 ^ k) = ((2 ^ k : Nat) : Int) := by
  have e2 : 2 ^ k ≤ 2 ^ 15 := Nat.pow_le_pow_right (by omega) (by omega)
  have e : ((2 : Int) ^ k) = ((2 ^ k : Nat) : Int) := by rw [Int.natCast_pow]; rfl
  rw [e, wrap_i64_nat _ (by omega)]
/-- the same in the spelling of go_simp -/
theorem bor_wth2 {s k : Nat} (hs : s < 65536) (hk : k < 16) : bits .or .i64 (s : Int) (IntKind.i64.wrap (2 ^ k)) = ((wth s k : Nat) : Int) := by
  have e2 : 2 ^ k ≤ 2 ^ 15 := Nat.pow_le_pow_right (by omega) (by omega)
  rw [wrap_pow2 hk, bits_or_i64_nat _ _ (by omega) (by omega)]
  rfl
end Go.Proofs.Ytbkgkgigcohbpaa
