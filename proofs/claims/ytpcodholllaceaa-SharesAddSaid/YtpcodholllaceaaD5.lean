import Derived.Test.YtpcodholllaceaaD4
namespace Go.Proofs.Ytpcodholllaceaa
open Go.RowKit

/- the arithmetic of the reference, at a modulus m -/
theorem plus_any (a b m : Nat) (h : a + b < 18446744073709551616) (hm : 0 < m) (w : World) : Calls Try.prog 48 #[.int .u64 a, .int .u64 b, .int .u64 m] w fun e w' => e = .returned (.int .u64 (((a + b) % m : Nat) : Int)) ∧ w = w' := by
  have e1 : IntKind.u64.wrap ((a : Int) + (b : Int)) = ((a + b : Nat) : Int) := wn (by omega) h
  obtain ⟨z, hz⟩ : ∃ z, a + b = z := ⟨_, rfl⟩
  rw [hz] at e1 ⊢
  have e2 : Int.tmod (z : Int) (m : Int) = ((z % m : Nat) : Int) := rfl
  obtain ⟨zr, e4⟩ : ∃ x, z % m = x := ⟨_, rfl⟩
  rw [e4] at e2 ⊢
  have e3 : (z : Int) % (m : Int) = (zr : Int) := by rw [← e4]; rfl
  have hm1 : (1 : Int) ≤ (m : Int) := by omega
  clear h hz e4 hm
  go_enter Try.func48, Try.ntmps48
  go_wp2_with fail
  go_ret
  exact ⟨rfl, rfl⟩

/-- the state of the loop of times -/
structure Tst (S m x a b : Nat) : Prop where
  val : (x + a * b) % m = S
  a_lt : a < m
  x_lt : x < m
  b_lt : b < 18446744073709551616
theorem half64 {b : Nat} (h : b < 18446744073709551616) : b / 2 < 18446744073709551616 := Nat.lt_of_le_of_lt (Nat.div_le_self _ _) h
theorem Tst.even {S m x a b : Nat} (h : Tst S m x a b) (hb : b % 2 = 0) : Tst S m x ((a + a) % m) (b / 2) := by
  refine ⟨?_, Nat.mod_lt _ (Nat.lt_of_le_of_lt (Nat.zero_le _) h.x_lt), h.x_lt, half64 h.b_lt⟩
  rw [← h.val, Nat.add_mod, Nat.mod_mul_mod, ← Nat.add_mod]
  congr 2
  rw [← Nat.mul_two, Nat.mul_assoc, show 2 * (b / 2) = b by omega]
theorem Tst.odd {S m x a b : Nat} (h : Tst S m x a b) (hb : b % 2 = 1) : Tst S m ((x + a) % m) ((a + a) % m) (b / 2) := by
  have hm := Nat.lt_of_le_of_lt (Nat.zero_le _) h.x_lt
  refine ⟨?_, Nat.mod_lt _ hm, Nat.mod_lt _ hm, half64 h.b_lt⟩
  rw [← h.val, Nat.mod_add_mod, Nat.add_mod, Nat.mod_mul_mod, ← Nat.add_mod]
  congr 1
  have : a * b = a + (a + a) * (b / 2) := by
    rw [← Nat.mul_two, Nat.mul_assoc]
    conv => lhs; rw [show b = 1 + 2 * (b / 2) by omega, Nat.mul_add, Nat.mul_one]
  rw [this]
  omega
theorem times_any (a0 b0 m : Nat) (ha : a0 < m) (hb : b0 < 18446744073709551616) (hm : m < 4611686018427387904) (w : World) : Calls Try.prog 42 #[.int .u64 a0, .int .u64 b0, .int .u64 m] w fun e w' => e = .returned (.int .u64 ((a0 * b0 % m : Nat) : Int)) ∧ w = w' := by
  obtain ⟨S, hS⟩ : ∃ S, a0 * b0 % m = S := ⟨_, rfl⟩
  rw [hS]
  have H0 : Hid (Tst S m 0 a0 b0) := ⟨by rw [Nat.zero_add]; exact hS, ha, by omega, hb⟩
  have HM := Lib.hid hm
  have hm0 : 0 < m := by omega
  have HM0 := Lib.hid hm0
  clear hS ha hb hm hm0
  go_enter Try.func42, Try.ntmps42
  go_wp2_with fail
  go_loop [0, 1, 7] (fun sa sb sx => ∃ x a b : Nat, sa = .int .u64 a ∧ sb = .int .u64 b ∧ sx = .int .u64 x ∧ Hid (Tst S m x a b)) (fun _ sb _ => (intOf sb).toNat)
  case atStart => exact ⟨0, a0, b0, rfl, rfl, rfl, H0⟩
  case round =>
    obtain ⟨x, a, b, rfl, rfl, rfl, HR⟩ := hrel
    by_cases hb0 : b = 0
    · subst hb0
      go_wp2_with fail
      go_ret
      have h := HR.out.val
      have h2 : x = S := by rw [Nat.mul_zero, Nat.add_zero, Nat.mod_eq_of_lt HR.out.x_lt] at h; exact h
      exact ⟨by rw [h2]; rfl, rfl⟩
    · have C1 := fun W => Lib.hid (plus_any x a m (by have := HR.out.x_lt; have := HR.out.a_lt; have := HM.out; omega) HM0.out W)
      have C2 := fun W => Lib.hid (plus_any a a m (by have := HR.out.a_lt; have := HM.out; omega) HM0.out W)
      have hp : (0 : Int) < (b : Int) := by omega
      have HB := Lib.hid hb0
      have hb2 : IntKind.u64.wrap ((b : Int) / 2) = ((b / 2 : Nat) : Int) := wn (by omega) (half64 HR.out.b_lt)
      by_cases ho : b % 2 = 1
      · have HP := Lib.hid (HR.out.odd ho)
        obtain ⟨y, hy⟩ : ∃ y, (x + a) % m = y := ⟨_, rfl⟩
        obtain ⟨c, hc⟩ : ∃ c, (a + a) % m = c := ⟨_, rfl⟩
        rw [hy] at C1 HP; rw [hc] at C2 HP
        have ho1 : (b : Int) % 2 = 1 := by omega
        clear ho hy hc hb0
        go_wp2_with fail
        refine (C1 _).out.mono ?_
        rintro e w1 ⟨rfl, rfl⟩
        go_wp2_with fail
        refine (C2 _).out.mono ?_
        rintro e w2 ⟨rfl, rfl⟩
        go_wp2_with fail
        go_round
        case rel => exact ⟨y, c, b / 2, rfl, rfl, rfl, HP⟩
        case measure => have := HB.out; simp [intOf]; omega
      · have HP := Lib.hid (HR.out.even (by omega))
        obtain ⟨c, hc⟩ : ∃ c, (a + a) % m = c := ⟨_, rfl⟩
        rw [hc] at C2 HP
        have ho1 : (b : Int) % 2 = 0 := by omega
        clear ho hc hb0
        go_wp2_with fail
        refine (C2 _).out.mono ?_
        rintro e w2 ⟨rfl, rfl⟩
        go_wp2_with fail
        go_round
        case rel => exact ⟨x, c, b / 2, rfl, rfl, rfl, HP⟩
        case measure => have := HB.out; simp [intOf]; omega
/-- the state of the loop of power -/
structure Rst (S m f x a k : Nat) : Prop where
  val : sqm m f x a k = S
  lt : k < 2 ^ f
  k64 : k < 18446744073709551616
  a_lt : a < m
  x_lt : x < m
theorem power_any (a0 k0 m : Nat) (hk : k0 < 18446744073709551616) (hm1 : 1 < m) (hm : m < 4611686018427387904) (w : World) : Calls Try.prog 36 #[.int .u64 a0, .int .u64 k0, .int .u64 m] w fun e w' => e = .returned (.int .u64 ((sqm m 64 1 (a0 % m) k0 : Nat) : Int)) ∧ w = w' := by
  obtain ⟨S, hS⟩ : ∃ S, sqm m 64 1 (a0 % m) k0 = S := ⟨_, rfl⟩
  obtain ⟨c0, hc0⟩ : ∃ c, a0 % m = c := ⟨_, rfl⟩
  rw [hS]
  have hcm : c0 < m := by rw [← hc0]; exact Nat.mod_lt _ (by omega)
  rw [hc0] at hS
  have H0 : Hid (Rst S m 64 1 c0 k0) := ⟨hS, hk, hk, hcm, hm1⟩
  have HM := Lib.hid hm
  have e2 : Int.tmod (a0 : Int) (m : Int) = (c0 : Int) := by rw [← hc0]; rfl
  have e3 : (a0 : Int) % (m : Int) = (c0 : Int) := by rw [← hc0]; rfl
  have hmi : (1 : Int) ≤ (m : Int) := by omega
  clear hS hk hcm hm hm1 hc0
  go_enter Try.func36, Try.ntmps36
  go_wp2_with fail
  go_loop [0, 1, 7] (fun sa sk sx => ∃ f x a k : Nat, sa = .int .u64 a ∧ sk = .int .u64 k ∧ sx = .int .u64 x ∧ Hid (Rst S m f x a k)) (fun _ sk _ => (intOf sk).toNat)
  case atStart => exact ⟨64, 1, c0, k0, rfl, rfl, rfl, H0⟩
  case round =>
    obtain ⟨f, x, a, k, rfl, rfl, rfl, HR⟩ := hrel
    by_cases hk0 : k = 0
    · subst hk0
      go_wp2_with fail
      go_ret
      have h := HR.out.val
      have h2 : x = S := by cases f <;> simpa [sqm] using h
      exact ⟨by rw [h2]; rfl, rfl⟩
    · obtain ⟨g, hf, hlt, hst⟩ := sqm_step (m := m) (x := x) (a := a) hk0 HR.out.lt
      have hv := hst.symm.trans HR.out.val
      obtain ⟨y, hy⟩ : ∃ y, x * a % m = y := ⟨_, rfl⟩
      obtain ⟨b, hb⟩ : ∃ b, a * a % m = b := ⟨_, rfl⟩
      have hmp : 0 < m := Nat.lt_of_le_of_lt (Nat.zero_le _) HR.out.x_lt
      have hyl : y < m := by rw [← hy]; exact Nat.mod_lt _ hmp
      have hbl : b < m := by rw [← hb]; exact Nat.mod_lt _ hmp
      have ha64 : a < 18446744073709551616 := by have := HR.out.a_lt; have := HM.out; omega
      have C1 := fun W => Lib.hid (times_any x a m HR.out.x_lt ha64 HM.out W)
      have C2 := fun W => Lib.hid (times_any a a m HR.out.a_lt ha64 HM.out W)
      rw [hy] at C1 hv
      rw [hb] at C2 hv
      have hp : (0 : Int) < (k : Int) := by omega
      have hk2 := half64 HR.out.k64
      have hw2 : IntKind.u64.wrap ((k : Int) / 2) = ((k / 2 : Nat) : Int) := wn (by omega) hk2
      have HK0 := Lib.hid hk0
      by_cases ho : k % 2 = 1
      · rw [if_pos ho] at hv
        have HP : Hid (Rst S m g y b (k / 2)) := ⟨hv, hlt, hk2, hbl, hyl⟩
        have ho1 : (k : Int) % 2 = 1 := by omega
        clear hv hst hlt hyl hbl hy hb hk2 ho hf hk0 hmp ha64
        go_wp2_with fail
        refine (C1 _).out.mono ?_
        rintro e w1 ⟨rfl, rfl⟩
        go_wp2_with fail
        refine (C2 _).out.mono ?_
        rintro e w2 ⟨rfl, rfl⟩
        go_wp2_with fail
        go_round
        case rel => exact ⟨g, y, b, k / 2, rfl, rfl, rfl, HP⟩
        case measure => have := HK0.out; simp [intOf]; omega
      · rw [if_neg ho] at hv
        have HP : Hid (Rst S m g x b (k / 2)) := ⟨hv, hlt, hk2, hbl, HR.out.x_lt⟩
        have ho1 : (k : Int) % 2 = 0 := by omega
        clear hv hst hlt hyl hbl hy hb hk2 ho hf hk0 hmp ha64
        go_wp2_with fail
        refine (C2 _).out.mono ?_
        rintro e w2 ⟨rfl, rfl⟩
        go_wp2_with fail
        go_round
        case rel => exact ⟨g, x, b, k / 2, rfl, rfl, rfl, HP⟩
        case measure => have := HK0.out; simp [intOf]; omega
set_option maxRecDepth 100000 in
theorem refPow_any (a k : Nat) (hk : k < 18446744073709551616) (w : World) : Calls Try.prog 17 #[.int .u64 a, .int .u64 k] w fun e w' => e = .returned (.int .u64 ((pw a k : Nat) : Int)) ∧ w = w' := by
  have C := Lib.hid (power_any a k 2305843009213691579 hk (by decide) (by decide) w)
  rw [show sqm 2305843009213691579 64 1 (a % 2305843009213691579) k = pw a k from rfl] at C
  obtain ⟨z, hz⟩ : ∃ z, pw a k = z := ⟨_, rfl⟩
  rw [hz] at C ⊢
  clear hz hk
  go_enter Try.func17, Try.ntmps17
  go_wp2_with fail
  refine C.out.mono ?_
  rintro e w' ⟨rfl, rfl⟩
  go_wp2_with fail
  go_ret
  exact ⟨rfl, rfl⟩
end Go.Proofs.Ytpcodholllaceaa
