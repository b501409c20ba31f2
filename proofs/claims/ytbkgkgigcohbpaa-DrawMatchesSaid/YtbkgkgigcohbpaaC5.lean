import Derived.Test.YtbkgkgigcohbpaaD2
import Derived.Deep.OwnRows
namespace Go.Proofs.Ytbkgkgigcohbpaa
open Go.RowKit
theorem pow16 {n : Nat} (h1 : 1 ≤ n) (h2 : n ≤ 16) : ∃ F, 2 ^ n = F + 1 ∧ 1 ≤ F ∧ F ≤ 65535 := by
  have e1 : 2 ^ 1 ≤ 2 ^ n := Nat.pow_le_pow_right (by omega) h1
  have e2 : 2 ^ n ≤ 2 ^ 16 := Nat.pow_le_pow_right (by omega) h2
  exact ⟨2 ^ n - 1, by omega, by omega, by omega⟩
theorem pow_wrap {n F : Nat} (hF : 2 ^ n = F + 1) (h : F ≤ 65535) : wrap64 (2 ^ n) = ((F + 1 : Nat) : Int) := by
  have : ((2 : Int) ^ n) = ((F + 1 : Nat) : Int) := by rw [← hF, Int.natCast_pow]; rfl
  rw [this]; unfold wrap64; omega
theorem make_u64 (S : Nat) (h : S ≤ 65536) (w : World) : (Instr.makeSlice 37 (.int .i64 (S : Int)) (.int .i64 (S : Int))).run Try.prog w = .ok (.slice (some ⟨w.heap.size, 0, none⟩) S S) (w.alloc (.cells (madeCells #[.int .u64 0] S) 28)) :=
  run_make_row' 37 28 (.int .u64 0) 8 Try.underlying37 (by kernel_rfl) rfl .i64 .i64 S (by omega) (by omega) w

theorem size_facts {n : Nat} (h1 : 1 ≤ n) (h2 : n ≤ 16) : ∃ F : Nat, 1 ≤ F ∧ F ≤ 65535 ∧ 2 ^ n = F + 1 ∧ wrap64 (2 ^ n) = ((F + 1 : Nat) : Int) ∧ wrap64 (((F + 1 : Nat) : Int) - 1) = (F : Int) ∧ wrap64 ((F : Int) + 1) = ((F + 1 : Nat) : Int) ∧ wrap64 ((F : Int) - 1) = (F : Int) - 1 ∧ (F : Int) < ((F + 1 : Nat) : Int) := by
  obtain ⟨F, e, a, b⟩ := pow16 h1 h2
  refine ⟨F, a, b, e, pow_wrap e b, ?_, ?_, ?_, ?_⟩ <;> first | omega | (unfold wrap64; omega)
end Go.Proofs.Ytbkgkgigcohbpaa
