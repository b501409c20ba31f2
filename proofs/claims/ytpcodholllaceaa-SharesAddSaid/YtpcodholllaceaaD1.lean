import Derived.Test.YtpcodholllaceaaGen
import Derived.IntWalk
namespace Go.Proofs.Ytpcodholllaceaa
open Go.RowKit

/- math/bits at the two moduli -/
set_option maxRecDepth 100000 in
theorem len_P (w : World) : Calls Try.prog 61 #[.int .u64 2305843009213691579] w fun e w' => e = .returned (.int .i64 61) ∧ w = w' := by
  go_enter Try.func61, Try.ntmps61
  go_wp2_with fail
  go_ret
  exact ⟨by kernel_rfl, rfl⟩
set_option maxRecDepth 100000 in
theorem len_Q (w : World) : Calls Try.prog 61 #[.int .u64 1152921504606845789] w fun e w' => e = .returned (.int .i64 60) ∧ w = w' := by
  go_enter Try.func61, Try.ntmps61
  go_wp2_with fail
  go_ret
  exact ⟨by kernel_rfl, rfl⟩
set_option maxRecDepth 100000 in
theorem lz_P (w : World) : Calls Try.prog 60 #[.int .u64 2305843009213691579] w fun e w' => e = .returned (.int .i64 3) ∧ w = w' := by
  go_enter Try.func60, Try.ntmps60
  go_wp2_with (go_at_call 61; refine (len_P _).mono ?_; rintro e w' ⟨rfl, rfl⟩)
  go_ret
  exact ⟨by kernel_rfl, rfl⟩
set_option maxRecDepth 100000 in
theorem lz_Q (w : World) : Calls Try.prog 60 #[.int .u64 1152921504606845789] w fun e w' => e = .returned (.int .i64 4) ∧ w = w' := by
  go_enter Try.func60, Try.ntmps60
  go_wp2_with (go_at_call 61; refine (len_Q _).mono ?_; rintro e w' ⟨rfl, rfl⟩)
  go_ret
  exact ⟨by kernel_rfl, rfl⟩
end Go.Proofs.Ytpcodholllaceaa
