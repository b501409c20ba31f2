/- The chapter's examples, reckoned. No program here. -/
import Derived.Test.YtbkgkgigcohbpaaH3
namespace Go.Proofs.Ytbkgkgigcohbpaa
theorem mayD_plain (n i k : Nat) : mayD (plainD n) i k = true := rfl
theorem nD_plain (n : Nat) : nD (plainD n) = n := plainF_len n
theorem Rn_plain (n : Nat) : Rn (mayD (plainD n)) n 0 = fct n := by
  unfold Rn
  rw [pcn_zero, Nat.sub_zero]
  exact rest_all _ n (fun i k => mayD_plain n i k) n 0 0 (by rw [pcn_zero]; omega)
theorem check3 : checkB (plainD 3) = true := by decide
theorem check16 : checkB (plainD 16) = true := by kernel_rfl
theorem count3 : countD (plainD 3) = (6, 0) := by
  unfold countD; rw [check3, nD_plain, Rn_plain]; rfl
theorem count16 : countD (plainD 16) = (20922789888000, 0) := by
  unfold countD; rw [check16, nD_plain, Rn_plain, fct_16]; rfl
theorem outcome3 : outcomeD (plainD 3) 1 = ([0, 2, 1], 0) := by kernel_rfl
theorem number3 : numberD (plainD 3) [0, 2, 1] = (1, 0) := by kernel_rfl
def twoD : DrawD := ⟨plainF 2, plainS 2, [(0, 100)]⟩
def oneD : DrawD := ⟨plainF 1, plainS 1, [(0, 100)]⟩
theorem chances2 : chancesD twoD = ([[0, 1], [1, 0]], 0) := by kernel_rfl
theorem count1 : countD oneD = (0, 0) := by kernel_rfl
theorem outcome1 : outcomeD oneD 0 = ([], 261) := by kernel_rfl
theorem check1 : checkD ⟨[1], [], []⟩ = 260 := by decide
end Go.Proofs.Ytbkgkgigcohbpaa
