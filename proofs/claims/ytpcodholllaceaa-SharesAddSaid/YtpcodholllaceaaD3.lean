import Derived.Test.YtpcodholllaceaaD2
import Derived.Test.YtpcodholllaceaaSh
import Derived.Test.YtpcodholllaceaaS1
namespace Go.Proofs.Ytpcodholllaceaa
open Go.RowKit

theorem divm_P (z : Nat) (h : z < 2305843009213691579 * 18446744073709551616) (w : World) :
    Calls Try.prog 53 #[.int .u64 ((z / 18446744073709551616 : Nat) : Int), .int .u64 ((z % 18446744073709551616 : Nat) : Int), .int .u64 2305843009213691579] w fun e w' => e = .returned (.tuple #[.int .u64 ((z / 2305843009213691579 : Nat) : Int), .int .u64 ((z % 2305843009213691579 : Nat) : Int)]) ∧ ∃ n, w' = w.drewN n := by
  have hd : z / 18446744073709551616 * 18446744073709551616 + z % 18446744073709551616 = z := by have := Nat.div_add_mod z 18446744073709551616; rw [Nat.mul_comm] at this; exact this
  have hm := Nat.mod_lt z (show 0 < 18446744073709551616 by decide)
  have hh : z / 18446744073709551616 < 2305843009213691579 := Nat.div_lt_of_lt_mul (by rw [Nat.mul_comm]; exact h)
  by_cases h0 : z / 18446744073709551616 = 0
  · rw [h0, Nat.zero_mul, Nat.zero_add] at hd
    rw [h0, hd]
    exact div0_P z (by rw [← hd]; exact hm) w
  · have C := div_P _ _ hh hm h0 w
    rw [hd] at C
    exact C.mono fun e w' ⟨he, hw⟩ => ⟨he, 0, hw⟩
set_option maxRecDepth 100000 in
theorem mul_P (a b : Nat) (ha : a < 2305843009213691579) (hb : b < 2305843009213691579) (w : World) : Calls Try.prog 33 #[.int .u64 2305843009213691579, .int .u64 a, .int .u64 b] w fun e w' => e = .returned (.int .u64 ((a * b % 2305843009213691579 : Nat) : Int)) ∧ ∃ n, w' = w.drewN n := by
  have C1 := Lib.hid (Try.bits_Mul64 a b (Nat.lt_trans ha (by decide)) (Nat.lt_trans hb (by decide)) w)
  have hz : a * b < 2305843009213691579 * 18446744073709551616 := Nat.lt_of_le_of_lt (Nat.mul_le_mul_right b (Nat.le_of_lt ha)) (Nat.mul_lt_mul_of_pos_left (Nat.lt_trans hb (by decide)) (by decide))
  have C2 := Lib.hid (divm_P (a * b) hz w)
  obtain ⟨z, hz'⟩ : ∃ z, a * b = z := ⟨_, rfl⟩
  rw [hz'] at C1 C2 ⊢
  obtain ⟨zh, e1⟩ : ∃ x, z / 18446744073709551616 = x := ⟨_, rfl⟩
  obtain ⟨zl, e2⟩ : ∃ x, z % 18446744073709551616 = x := ⟨_, rfl⟩
  obtain ⟨zq, e3⟩ : ∃ x, z / 2305843009213691579 = x := ⟨_, rfl⟩
  obtain ⟨zr, e4⟩ : ∃ x, z % 2305843009213691579 = x := ⟨_, rfl⟩
  rw [e1, e2] at C1; rw [e1, e2, e3, e4] at C2; rw [e4]
  clear ha hb hz hz' e1 e2 e3 e4
  go_enter Try.func33, Try.ntmps33
  go_wp2_with fail
  refine C1.out.mono ?_
  rintro e w' ⟨rfl, rfl⟩
  go_wp2_with fail
  refine C2.out.mono ?_
  rintro e w2 ⟨rfl, n, rfl⟩
  go_wp2_with fail
  go_ret
  exact ⟨rfl, n, rfl⟩
set_option maxRecDepth 100000 in
theorem add_P (a b : Nat) (h : a + b < 18446744073709551616) (w : World) : Calls Try.prog 32 #[.int .u64 2305843009213691579, .int .u64 a, .int .u64 b] w fun e w' => e = .returned (.int .u64 (((a + b) % 2305843009213691579 : Nat) : Int)) ∧ ∃ n, w' = w.drewN n := by
  have e1 : IntKind.u64.wrap ((a : Int) + (b : Int)) = ((a + b : Nat) : Int) := wn (by omega) h
  obtain ⟨z, hz⟩ : ∃ z, a + b = z := ⟨_, rfl⟩
  rw [hz] at e1 ⊢
  have e2 : Int.tmod (z : Int) 2305843009213691579 = ((z % 2305843009213691579 : Nat) : Int) := by rw [IntWalk.rem_in _ _ (by omega)]; omega
  obtain ⟨zr, e4⟩ : ∃ x, z % 2305843009213691579 = x := ⟨_, rfl⟩
  rw [e4] at e2 ⊢
  have e3 : (z : Int) % 2305843009213691579 = (zr : Int) := by omega
  clear h hz e4
  go_enter Try.func32, Try.ntmps32
  go_wp2_with fail
  go_ret
  exact ⟨rfl, 0, rfl⟩

theorem divm_Q (z : Nat) (h : z < 1152921504606845789 * 18446744073709551616) (w : World) :
    Calls Try.prog 53 #[.int .u64 ((z / 18446744073709551616 : Nat) : Int), .int .u64 ((z % 18446744073709551616 : Nat) : Int), .int .u64 1152921504606845789] w fun e w' => e = .returned (.tuple #[.int .u64 ((z / 1152921504606845789 : Nat) : Int), .int .u64 ((z % 1152921504606845789 : Nat) : Int)]) ∧ ∃ n, w' = w.drewN n := by
  have hd : z / 18446744073709551616 * 18446744073709551616 + z % 18446744073709551616 = z := by have := Nat.div_add_mod z 18446744073709551616; rw [Nat.mul_comm] at this; exact this
  have hm := Nat.mod_lt z (show 0 < 18446744073709551616 by decide)
  have hh : z / 18446744073709551616 < 1152921504606845789 := Nat.div_lt_of_lt_mul (by rw [Nat.mul_comm]; exact h)
  by_cases h0 : z / 18446744073709551616 = 0
  · rw [h0, Nat.zero_mul, Nat.zero_add] at hd
    rw [h0, hd]
    exact div0_Q z (by rw [← hd]; exact hm) w
  · have C := div_Q _ _ hh hm h0 w
    rw [hd] at C
    exact C.mono fun e w' ⟨he, hw⟩ => ⟨he, 0, hw⟩
set_option maxRecDepth 100000 in
theorem mul_Q (a b : Nat) (ha : a < 1152921504606845789) (hb : b < 1152921504606845789) (w : World) : Calls Try.prog 33 #[.int .u64 1152921504606845789, .int .u64 a, .int .u64 b] w fun e w' => e = .returned (.int .u64 ((a * b % 1152921504606845789 : Nat) : Int)) ∧ ∃ n, w' = w.drewN n := by
  have C1 := Lib.hid (Try.bits_Mul64 a b (Nat.lt_trans ha (by decide)) (Nat.lt_trans hb (by decide)) w)
  have hz : a * b < 1152921504606845789 * 18446744073709551616 := Nat.lt_of_le_of_lt (Nat.mul_le_mul_right b (Nat.le_of_lt ha)) (Nat.mul_lt_mul_of_pos_left (Nat.lt_trans hb (by decide)) (by decide))
  have C2 := Lib.hid (divm_Q (a * b) hz w)
  obtain ⟨z, hz'⟩ : ∃ z, a * b = z := ⟨_, rfl⟩
  rw [hz'] at C1 C2 ⊢
  obtain ⟨zh, e1⟩ : ∃ x, z / 18446744073709551616 = x := ⟨_, rfl⟩
  obtain ⟨zl, e2⟩ : ∃ x, z % 18446744073709551616 = x := ⟨_, rfl⟩
  obtain ⟨zq, e3⟩ : ∃ x, z / 1152921504606845789 = x := ⟨_, rfl⟩
  obtain ⟨zr, e4⟩ : ∃ x, z % 1152921504606845789 = x := ⟨_, rfl⟩
  rw [e1, e2] at C1; rw [e1, e2, e3, e4] at C2; rw [e4]
  clear ha hb hz hz' e1 e2 e3 e4
  go_enter Try.func33, Try.ntmps33
  go_wp2_with fail
  refine C1.out.mono ?_
  rintro e w' ⟨rfl, rfl⟩
  go_wp2_with fail
  refine C2.out.mono ?_
  rintro e w2 ⟨rfl, n, rfl⟩
  go_wp2_with fail
  go_ret
  exact ⟨rfl, n, rfl⟩
set_option maxRecDepth 100000 in
theorem add_Q (a b : Nat) (h : a + b < 18446744073709551616) (w : World) : Calls Try.prog 32 #[.int .u64 1152921504606845789, .int .u64 a, .int .u64 b] w fun e w' => e = .returned (.int .u64 (((a + b) % 1152921504606845789 : Nat) : Int)) ∧ ∃ n, w' = w.drewN n := by
  have e1 : IntKind.u64.wrap ((a : Int) + (b : Int)) = ((a + b : Nat) : Int) := wn (by omega) h
  obtain ⟨z, hz⟩ : ∃ z, a + b = z := ⟨_, rfl⟩
  rw [hz] at e1 ⊢
  have e2 : Int.tmod (z : Int) 1152921504606845789 = ((z % 1152921504606845789 : Nat) : Int) := by rw [IntWalk.rem_in _ _ (by omega)]; omega
  obtain ⟨zr, e4⟩ : ∃ x, z % 1152921504606845789 = x := ⟨_, rfl⟩
  rw [e4] at e2 ⊢
  have e3 : (z : Int) % 1152921504606845789 = (zr : Int) := by omega
  clear h hz e4
  go_enter Try.func32, Try.ntmps32
  go_wp2_with fail
  go_ret
  exact ⟨rfl, 0, rfl⟩

end Go.Proofs.Ytpcodholllaceaa
