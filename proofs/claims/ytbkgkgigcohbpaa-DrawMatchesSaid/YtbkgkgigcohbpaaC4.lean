import Derived.Test.YtbkgkgigcohbpaaC3
import Derived.Test.YtbkgkgigcohbpaaM2
namespace Go.Proofs.Ytbkgkgigcohbpaa
open Go.RowKit

theorem ones64 (w : World) (x : Nat) (hx : x < 65536) :
    Calls Try.prog 39 #[.int .u64 x] w fun e w' => e = .returned (.int .i64 (pcn x 16)) ∧ w' = w := by
  go_enter Try.func39, Try.ntmps39
  go_wp2_with fail
  have hA := oA_lt x
  simp only [iA x (by omega), iB _ hA, iC, iD, iE, iF]
  have hF := oF_lt (oB (oA x))
  have e7 : wrap64 (oF (oE (oD (oC (oB (oA x))))) : Int) = (oF (oE (oD (oC (oB (oA x))))) : Int) := by unfold wrap64; omega
  have e8 : (oF (oE (oD (oC (oB (oA x))))) % 128 : Nat) = pcn x 16 := okO_at 16 0 x 0 ok_all (Nat.le_refl _) ⟨0, rfl⟩ (pcn_zero 16).symm (Nat.zero_le _) (by omega)
  rw [e7, oZ_and _ hF, e8]
  go_ret
  exact ⟨rfl, rfl⟩
theorem ones (w : World) (x : Nat) (hx : x < 65536) :
    Calls Try.prog 30 #[.int .u64 x] w fun e w' => e = .returned (.int .i64 (pcn x 16)) ∧ w' = w := by
  have C := Lib.hid (ones64 w x hx)
  go_enter Try.func30, Try.ntmps30
  go_wp2_with fail
  refine C.out.mono ?_
  rintro _ W ⟨rfl, rfl⟩
  go_wp2_with fail
  go_ret
  exact ⟨rfl, rfl⟩
end Go.Proofs.Ytbkgkgigcohbpaa
