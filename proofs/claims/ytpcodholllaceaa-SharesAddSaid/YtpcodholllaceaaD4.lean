import Derived.Test.YtpcodholllaceaaD3
namespace Go.Proofs.Ytpcodholllaceaa
open Go.RowKit

def Drn (w w' : World) : Prop := ∃ n, w' = w.drewN n
theorem Drn.refl (w : World) : Drn w w := ⟨0, rfl⟩
theorem Drn.drewN {w w' : World} (h : Drn w w') (n : Nat) : Drn w (w'.drewN n) := by obtain ⟨m, rfl⟩ := h; exact ⟨m + n, by rw [World.drewN_drewN]⟩
theorem sqm_step {m f x a k : Nat} (hk : k ≠ 0) (h : k < 2 ^ f) : ∃ g, f = g + 1 ∧ k / 2 < 2 ^ g ∧ sqm m f x a k = sqm m g (if k % 2 = 1 then x * a % m else x) (a * a % m) (k / 2) := by
  cases f with
  | zero => omega
  | succ g => exact ⟨g, rfl, by rw [Nat.pow_succ] at h; omega, by rw [sqm, if_neg hk]⟩
/-- the state of the loop of pow -/
structure PstP (S f x a k : Nat) (w wr : World) : Prop where
  val : sqm 2305843009213691579 f x a k = S
  lt : k < 2 ^ f
  k64 : k < 18446744073709551616
  a_lt : a < 2305843009213691579
  x_lt : x < 2305843009213691579
  drn : Drn w wr
set_option maxRecDepth 100000 in
theorem pow_P (a0 k0 : Nat) (ha : a0 < 2305843009213691579) (hk : k0 < 18446744073709551616) (w : World) : Calls Try.prog 35 #[.int .u64 2305843009213691579, .int .u64 a0, .int .u64 k0] w fun e w' => e = .returned (.int .u64 ((sqm 2305843009213691579 64 1 a0 k0 : Nat) : Int)) ∧ ∃ n, w' = w.drewN n := by
  obtain ⟨S, hS⟩ : ∃ S, sqm 2305843009213691579 64 1 a0 k0 = S := ⟨_, rfl⟩
  rw [hS]
  have H0 : Hid (PstP S 64 1 a0 k0 w w) := ⟨hS, hk, hk, ha, by decide, Drn.refl _⟩
  clear hS ha hk
  go_enter Try.func35, Try.ntmps35
  go_wp2_with fail
  go_loopw [1, 2, 7] (fun sa sk sx wr => ∃ f x a k : Nat, sa = .int .u64 a ∧ sk = .int .u64 k ∧ sx = .int .u64 x ∧ Hid (PstP S f x a k w wr)) (fun _ sk _ _ => (intOf sk).toNat)
  case atStart => exact ⟨64, 1, a0, k0, rfl, rfl, rfl, H0⟩
  case round =>
    obtain ⟨f, x, a, k, rfl, rfl, rfl, HR⟩ := hrel
    by_cases hk0 : k = 0
    · subst hk0
      go_wp2_with fail
      go_ret
      have h := HR.out.val
      have h2 : x = S := by cases f <;> simpa [sqm] using h
      exact ⟨by rw [h2]; rfl, HR.out.drn⟩
    · obtain ⟨g, hf, hlt, hst⟩ := sqm_step (m := 2305843009213691579) (x := x) (a := a) hk0 HR.out.lt
      have hv := hst.symm.trans HR.out.val
      obtain ⟨y, hy⟩ : ∃ y, x * a % 2305843009213691579 = y := ⟨_, rfl⟩
      obtain ⟨b, hb⟩ : ∃ b, a * a % 2305843009213691579 = b := ⟨_, rfl⟩
      have hyl : y < 2305843009213691579 := by rw [← hy]; exact Nat.mod_lt _ (by decide)
      have hbl : b < 2305843009213691579 := by rw [← hb]; exact Nat.mod_lt _ (by decide)
      have C1 := fun W => Lib.hid (mul_P x a HR.out.x_lt HR.out.a_lt W)
      have C2 := fun W => Lib.hid (mul_P a a HR.out.a_lt HR.out.a_lt W)
      rw [hy] at C1 hv
      rw [hb] at C2 hv
      have hand := and_one k HR.out.k64
      have hp : (0 : Int) < (k : Int) := by omega
      have hk2 : k / 2 < 18446744073709551616 := Nat.lt_of_le_of_lt (Nat.div_le_self _ _) HR.out.k64
      have HK0 := Lib.hid hk0
      by_cases ho : k % 2 = 1
      · rw [ho] at hand
        rw [if_pos ho] at hv
        have HP : ∀ n, Hid (PstP S g y b (k / 2) w (wr.drewN n)) := fun n => ⟨hv, hlt, hk2, hbl, hyl, HR.out.drn.drewN n⟩
        clear hv hst hlt hyl hbl hy hb hk2 ho hf hk0
        go_wp2_with fail
        refine (C1 _).out.mono ?_
        rintro e w1 ⟨rfl, n, rfl⟩
        go_wp2_with fail
        refine (C2 _).out.mono ?_
        rintro e w2 ⟨rfl, m, rfl⟩
        go_wp2_with fail
        go_roundw
        case rel => exact ⟨g, y, b, k / 2, rfl, by go_num, rfl, HP (n + m)⟩
        case measure => have := HK0.out; simp [intOf]; omega
      · have ho' : k % 2 = 0 := by omega
        rw [ho'] at hand
        rw [if_neg ho] at hv
        have HP : ∀ n, Hid (PstP S g x b (k / 2) w (wr.drewN n)) := fun n => ⟨hv, hlt, hk2, hbl, HR.out.x_lt, HR.out.drn.drewN n⟩
        clear hv hst hlt hyl hbl hy hb hk2 ho ho' hf hk0
        go_wp2_with fail
        refine (C2 _).out.mono ?_
        rintro e w2 ⟨rfl, m, rfl⟩
        go_wp2_with fail
        go_roundw
        case rel => exact ⟨g, x, b, k / 2, rfl, by go_num, rfl, HP m⟩
        case measure => have := HK0.out; simp [intOf]; omega

/-- the state of the loop of pow -/
structure PstQ (S f x a k : Nat) (w wr : World) : Prop where
  val : sqm 1152921504606845789 f x a k = S
  lt : k < 2 ^ f
  k64 : k < 18446744073709551616
  a_lt : a < 1152921504606845789
  x_lt : x < 1152921504606845789
  drn : Drn w wr
set_option maxRecDepth 100000 in
theorem pow_Q (a0 k0 : Nat) (ha : a0 < 1152921504606845789) (hk : k0 < 18446744073709551616) (w : World) : Calls Try.prog 35 #[.int .u64 1152921504606845789, .int .u64 a0, .int .u64 k0] w fun e w' => e = .returned (.int .u64 ((sqm 1152921504606845789 64 1 a0 k0 : Nat) : Int)) ∧ ∃ n, w' = w.drewN n := by
  obtain ⟨S, hS⟩ : ∃ S, sqm 1152921504606845789 64 1 a0 k0 = S := ⟨_, rfl⟩
  rw [hS]
  have H0 : Hid (PstQ S 64 1 a0 k0 w w) := ⟨hS, hk, hk, ha, by decide, Drn.refl _⟩
  clear hS ha hk
  go_enter Try.func35, Try.ntmps35
  go_wp2_with fail
  go_loopw [1, 2, 7] (fun sa sk sx wr => ∃ f x a k : Nat, sa = .int .u64 a ∧ sk = .int .u64 k ∧ sx = .int .u64 x ∧ Hid (PstQ S f x a k w wr)) (fun _ sk _ _ => (intOf sk).toNat)
  case atStart => exact ⟨64, 1, a0, k0, rfl, rfl, rfl, H0⟩
  case round =>
    obtain ⟨f, x, a, k, rfl, rfl, rfl, HR⟩ := hrel
    by_cases hk0 : k = 0
    · subst hk0
      go_wp2_with fail
      go_ret
      have h := HR.out.val
      have h2 : x = S := by cases f <;> simpa [sqm] using h
      exact ⟨by rw [h2]; rfl, HR.out.drn⟩
    · obtain ⟨g, hf, hlt, hst⟩ := sqm_step (m := 1152921504606845789) (x := x) (a := a) hk0 HR.out.lt
      have hv := hst.symm.trans HR.out.val
      obtain ⟨y, hy⟩ : ∃ y, x * a % 1152921504606845789 = y := ⟨_, rfl⟩
      obtain ⟨b, hb⟩ : ∃ b, a * a % 1152921504606845789 = b := ⟨_, rfl⟩
      have hyl : y < 1152921504606845789 := by rw [← hy]; exact Nat.mod_lt _ (by decide)
      have hbl : b < 1152921504606845789 := by rw [← hb]; exact Nat.mod_lt _ (by decide)
      have C1 := fun W => Lib.hid (mul_Q x a HR.out.x_lt HR.out.a_lt W)
      have C2 := fun W => Lib.hid (mul_Q a a HR.out.a_lt HR.out.a_lt W)
      rw [hy] at C1 hv
      rw [hb] at C2 hv
      have hand := and_one k HR.out.k64
      have hp : (0 : Int) < (k : Int) := by omega
      have hk2 : k / 2 < 18446744073709551616 := Nat.lt_of_le_of_lt (Nat.div_le_self _ _) HR.out.k64
      have HK0 := Lib.hid hk0
      by_cases ho : k % 2 = 1
      · rw [ho] at hand
        rw [if_pos ho] at hv
        have HP : ∀ n, Hid (PstQ S g y b (k / 2) w (wr.drewN n)) := fun n => ⟨hv, hlt, hk2, hbl, hyl, HR.out.drn.drewN n⟩
        clear hv hst hlt hyl hbl hy hb hk2 ho hf hk0
        go_wp2_with fail
        refine (C1 _).out.mono ?_
        rintro e w1 ⟨rfl, n, rfl⟩
        go_wp2_with fail
        refine (C2 _).out.mono ?_
        rintro e w2 ⟨rfl, m, rfl⟩
        go_wp2_with fail
        go_roundw
        case rel => exact ⟨g, y, b, k / 2, rfl, by go_num, rfl, HP (n + m)⟩
        case measure => have := HK0.out; simp [intOf]; omega
      · have ho' : k % 2 = 0 := by omega
        rw [ho'] at hand
        rw [if_neg ho] at hv
        have HP : ∀ n, Hid (PstQ S g x b (k / 2) w (wr.drewN n)) := fun n => ⟨hv, hlt, hk2, hbl, HR.out.x_lt, HR.out.drn.drewN n⟩
        clear hv hst hlt hyl hbl hy hb hk2 ho ho' hf hk0
        go_wp2_with fail
        refine (C2 _).out.mono ?_
        rintro e w2 ⟨rfl, m, rfl⟩
        go_wp2_with fail
        go_roundw
        case rel => exact ⟨g, x, b, k / 2, rfl, by go_num, rfl, HP m⟩
        case measure => have := HK0.out; simp [intOf]; omega

set_option maxRecDepth 100000 in
theorem Pow_any (a k : Nat) (hk : k < 18446744073709551616) (w : World) : Calls Try.prog 16 #[.int .u64 a, .int .u64 k] w fun e w' => e = .returned (.int .u64 ((pw a k : Nat) : Int)) ∧ ∃ n, w' = w.drewN n := by
  have C := Lib.hid (pow_P (a % 2305843009213691579) k (Nat.mod_lt _ (by decide)) hk w)
  have e1 : Int.tmod (a : Int) 2305843009213691579 = ((a % 2305843009213691579 : Nat) : Int) := by rw [IntWalk.rem_in _ _ (by omega)]; omega
  have e2 : (a : Int) % 2305843009213691579 = ((a % 2305843009213691579 : Nat) : Int) := by omega
  rw [show sqm 2305843009213691579 64 1 (a % 2305843009213691579) k = pw a k from rfl] at C
  obtain ⟨z, hz⟩ : ∃ z, pw a k = z := ⟨_, rfl⟩
  rw [hz] at C ⊢
  obtain ⟨b, hb⟩ : ∃ b, a % 2305843009213691579 = b := ⟨_, rfl⟩
  rw [hb] at C e1 e2
  clear hz hb hk
  go_enter Try.func16, Try.ntmps16
  go_wp2_with fail
  refine C.out.mono ?_
  rintro e w' ⟨rfl, n, rfl⟩
  go_wp2_with fail
  go_ret
  exact ⟨rfl, n, rfl⟩
set_option maxRecDepth 100000 in
theorem inv_any (a : Nat) (ha : a < 1152921504606845789) (w : World) : Calls Try.prog 58 #[.int .u64 1152921504606845789, .int .u64 a] w fun e w' => e = .returned (.int .u64 ((invQ a : Nat) : Int)) ∧ ∃ n, w' = w.drewN n := by
  have C := Lib.hid (pow_Q a (1152921504606845789 - 2) ha (by decide) w)
  rw [show sqm 1152921504606845789 64 1 a (1152921504606845789 - 2) = invQ a from rfl, show (((1152921504606845789 - 2 : Nat) : Nat) : Int) = 1152921504606845787 from rfl] at C
  obtain ⟨z, hz⟩ : ∃ z, invQ a = z := ⟨_, rfl⟩
  rw [hz] at C ⊢
  clear hz ha
  go_enter Try.func58, Try.ntmps58
  go_wp2_with fail
  refine C.out.mono ?_
  rintro e w' ⟨rfl, n, rfl⟩
  go_wp2_with fail
  go_ret
  exact ⟨rfl, n, rfl⟩
end Go.Proofs.Ytpcodholllaceaa
