import Derived.Test.YtpcodholllaceaaD1
import Derived.Test.YtpcodholllaceaaD0
import Derived.Deep.CutBlock
import Derived.Deep.DeepCutAuto
import Derived.RegionTactic
namespace Go.Proofs.Ytpcodholllaceaa
open Go.RowKit

set_option maxRecDepth 100000 in
set_option maxHeartbeats 2000000 in
theorem div_P (hi lo : Nat) (h1 : hi < 2305843009213691579) (h2 : lo < 18446744073709551616) (h0 : hi ≠ 0) (w : World) :
    Calls Try.prog 53 #[.int .u64 hi, .int .u64 lo, .int .u64 2305843009213691579] w fun e w' => e = .returned (.tuple #[.int .u64 (((hi * 18446744073709551616 + lo) / 2305843009213691579 : Nat) : Int), .int .u64 (((hi * 18446744073709551616 + lo) % 2305843009213691579 : Nat) : Int)]) ∧ w' = w := by
  obtain ⟨u, u1, u0, hu, hu1, hu0, he, e1, e2, e3⟩ := set_P hi lo h1 h2
  obtain ⟨q1, r1, E1, e4, e5⟩ := est0_P u u1 hu hu1
  obtain ⟨e6, hr⟩ := rest_P u u1
  obtain ⟨f1, f2⟩ := fin_P hi lo u u1 u0 h1 h2 hu0 he
  obtain ⟨Q1, hQ1⟩ : ∃ x, (u * 4294967296 + u1) / 18446744073709532632 = x := ⟨_, rfl⟩
  obtain ⟨R1, hR1⟩ : ∃ x, (u * 4294967296 + u1) % 18446744073709532632 = x := ⟨_, rfl⟩
  rw [hQ1, hR1] at e6 f1; rw [hR1] at f2 hr
  obtain ⟨q2, r2, E2, e7, e8⟩ := est0_P R1 u0 hr hu0
  obtain ⟨Q2, hQ2⟩ : ∃ x, (R1 * 4294967296 + u0) / 18446744073709532632 = x := ⟨_, rfl⟩
  rw [hQ2] at f1 f2
  obtain ⟨zq, hzq⟩ : ∃ x, (hi * 18446744073709551616 + lo) / 2305843009213691579 = x := ⟨_, rfl⟩
  obtain ⟨zr, hzr⟩ : ∃ x, (hi * 18446744073709551616 + lo) % 2305843009213691579 = x := ⟨_, rfl⟩
  rw [hzq] at f1; rw [hzr] at f2; rw [hzq, hzr]
  have b0 : ((hi : Int) == 0) = false := by simp [h0]
  have b1 : decide ((2305843009213691579 : Int) ≤ (hi : Int)) = false := by simp; omega
  have eY := y0_P
  have Hhu := Lib.hid hu
  have Hhu1 := Lib.hid hu1
  have Hhu0 := Lib.hid hu0
  have HE1 := Lib.hid E1
  have HE2 := Lib.hid E2
  have HhQ1 := Lib.hid hQ1
  have HhR1 := Lib.hid hR1
  have HhQ2 := Lib.hid hQ2
  have Hhr := Lib.hid hr
  clear hu hu1 hu0 he E1 E2 hQ1 hR1 hQ2 hzq hzr h0 h1 h2 hr
  go_enter Try.func53, Try.ntmps53
  go_upto_block 0 with (go_at_call 60; refine (lz_P _).mono ?_; rintro e w' ⟨rfl, rfl⟩)
  go_cut [15] (fun s wx => s = .int .u64 (Q1 : Int) ∧ w = wx)
  case first =>
    go_wp2_with fail
    go_loop [15, 16] (fun s t => ∃ q r : Nat, s = .int .u64 q ∧ t = .int .u64 r ∧ Hid (EstP u u1 q r)) (fun s _ => (intOf s).toNat)
    case atStart => exact ⟨q1, r1, rfl, rfl, HE1⟩
    case round =>
      obtain ⟨q, r, rfl, rfl, HE⟩ := hrel
      obtain ⟨m1, m2⟩ := estw_P HE.out Hhu1.out
      obtain ⟨a, ha⟩ : ∃ a, q * 4294948312 = a := ⟨_, rfl⟩
      obtain ⟨b, hb⟩ : ∃ b, r * 4294967296 + u1 = b := ⟨_, rfl⟩
      rw [ha] at m1; rw [hb] at m2
      by_cases hc : 4294967296 ≤ q ∨ b < a
      · obtain ⟨hq, d1, d2, hE2, hx⟩ := estx_P HE.out Hhu.out Hhu1.out (by rw [ha, hb]; exact hc)
        rw [HhQ1.out] at hx
        obtain ⟨r3, hr3⟩ : ∃ x, r + 4294967295 = x := ⟨_, rfl⟩
        rw [hr3] at d2 hE2 hx
        have HX := Lib.hid hx; have HE2 := Lib.hid hE2; have Hq := Lib.hid hq
        clear hx hE2 hq ha hb hr3
        by_cases c3 : r3 < 4294967296
        · have c3' : decide ((4294967296 : Int) ≤ (r3 : Int)) = false := by simp; omega
          have C3 := Lib.hid c3; clear c3
          by_cases c1 : 4294967296 ≤ q
          · have c1' : decide ((4294967296 : Int) ≤ (q : Int)) = true := by simp; omega
            clear hc c1
            go_wp2_with fail
            go_round
            case rel => exact ⟨q - 1, r3, rfl, rfl, Lib.hid (HE2.out C3.out)⟩
            case measure => have := Hq.out; simp [intOf]; omega
          · have c1' : decide ((4294967296 : Int) ≤ (q : Int)) = false := by simp; omega
            have c2 : decide (b < a) = true := by simp; omega
            clear hc c1
            go_wp2_with fail
            go_round
            case rel => exact ⟨q - 1, r3, rfl, rfl, Lib.hid (HE2.out C3.out)⟩
            case measure => have := Hq.out; simp [intOf]; omega
        · have c3' : decide ((4294967296 : Int) ≤ (r3 : Int)) = true := by simp; omega
          have C3 := Lib.hid c3; clear c3
          by_cases c1 : 4294967296 ≤ q
          · have c1' : decide ((4294967296 : Int) ≤ (q : Int)) = true := by simp; omega
            clear hc c1
            go_wp2_with fail
            go_meet
            case rel => exact ⟨by rw [HX.out (by have := C3.out; omega)], rfl⟩
          · have c1' : decide ((4294967296 : Int) ≤ (q : Int)) = false := by simp; omega
            have c2 : decide (b < a) = true := by simp; omega
            clear hc c1
            go_wp2_with fail
            go_meet
            case rel => exact ⟨by rw [HX.out (by have := C3.out; omega)], rfl⟩
      · have hx := este_P HE.out (by rw [ha, hb]; exact hc)
        rw [HhQ1.out] at hx
        have c1' : decide ((4294967296 : Int) ≤ (q : Int)) = false := by simp; omega
        have c2 : decide (b < a) = false := by simp; omega
        have HX := Lib.hid hx
        clear hc hx ha hb
        go_wp2_with fail
        go_meet
        case rel => exact ⟨by rw [HX.out], rfl⟩
  case rest =>
  obtain ⟨rfl, rfl⟩ := hcut
  go_upto_block 2 with fail
  go_cut [18] (fun s wx => s = .int .u64 (Q2 : Int) ∧ w = wx)
  case first =>
    go_wp2_with fail
    go_loop [18, 16] (fun s t => ∃ q r : Nat, s = .int .u64 q ∧ t = .int .u64 r ∧ Hid (EstP R1 u0 q r)) (fun s _ => (intOf s).toNat)
    case atStart => exact ⟨q2, r2, rfl, rfl, HE2⟩
    case round =>
      obtain ⟨q, r, rfl, rfl, HE⟩ := hrel
      obtain ⟨m1, m2⟩ := estw_P HE.out Hhu0.out
      obtain ⟨a, ha⟩ : ∃ a, q * 4294948312 = a := ⟨_, rfl⟩
      obtain ⟨b, hb⟩ : ∃ b, r * 4294967296 + u0 = b := ⟨_, rfl⟩
      rw [ha] at m1; rw [hb] at m2
      by_cases hc : 4294967296 ≤ q ∨ b < a
      · obtain ⟨hq, d1, d2, hE2, hx⟩ := estx_P HE.out Hhr.out Hhu0.out (by rw [ha, hb]; exact hc)
        rw [HhQ2.out] at hx
        obtain ⟨r3, hr3⟩ : ∃ x, r + 4294967295 = x := ⟨_, rfl⟩
        rw [hr3] at d2 hE2 hx
        have HX := Lib.hid hx; have HE2 := Lib.hid hE2; have Hq := Lib.hid hq
        clear hx hE2 hq ha hb hr3
        by_cases c3 : r3 < 4294967296
        · have c3' : decide ((4294967296 : Int) ≤ (r3 : Int)) = false := by simp; omega
          have C3 := Lib.hid c3; clear c3
          by_cases c1 : 4294967296 ≤ q
          · have c1' : decide ((4294967296 : Int) ≤ (q : Int)) = true := by simp; omega
            clear hc c1
            go_wp2_with fail
            go_round
            case rel => exact ⟨q - 1, r3, rfl, rfl, Lib.hid (HE2.out C3.out)⟩
            case measure => have := Hq.out; simp [intOf]; omega
          · have c1' : decide ((4294967296 : Int) ≤ (q : Int)) = false := by simp; omega
            have c2 : decide (b < a) = true := by simp; omega
            clear hc c1
            go_wp2_with fail
            go_round
            case rel => exact ⟨q - 1, r3, rfl, rfl, Lib.hid (HE2.out C3.out)⟩
            case measure => have := Hq.out; simp [intOf]; omega
        · have c3' : decide ((4294967296 : Int) ≤ (r3 : Int)) = true := by simp; omega
          have C3 := Lib.hid c3; clear c3
          by_cases c1 : 4294967296 ≤ q
          · have c1' : decide ((4294967296 : Int) ≤ (q : Int)) = true := by simp; omega
            clear hc c1
            go_wp2_with fail
            go_meet
            case rel => exact ⟨by rw [HX.out (by have := C3.out; omega)], rfl⟩
          · have c1' : decide ((4294967296 : Int) ≤ (q : Int)) = false := by simp; omega
            have c2 : decide (b < a) = true := by simp; omega
            clear hc c1
            go_wp2_with fail
            go_meet
            case rel => exact ⟨by rw [HX.out (by have := C3.out; omega)], rfl⟩
      · have hx := este_P HE.out (by rw [ha, hb]; exact hc)
        rw [HhQ2.out] at hx
        have c1' : decide ((4294967296 : Int) ≤ (q : Int)) = false := by simp; omega
        have c2 : decide (b < a) = false := by simp; omega
        have HX := Lib.hid hx
        clear hc hx ha hb
        go_wp2_with fail
        go_meet
        case rel => exact ⟨by rw [HX.out], rfl⟩
  case rest =>
  obtain ⟨rfl, rfl⟩ := hcut
  go_wp2_with fail
  go_ret2
  exact ⟨rfl, rfl⟩
set_option maxRecDepth 100000 in
theorem div0_P (lo : Nat) (h2 : lo < 18446744073709551616) (w : World) :
    Calls Try.prog 53 #[.int .u64 0, .int .u64 lo, .int .u64 2305843009213691579] w fun e w' => e = .returned (.tuple #[.int .u64 ((lo / 2305843009213691579 : Nat) : Int), .int .u64 ((lo % 2305843009213691579 : Nat) : Int)]) ∧ ∃ n, w' = w.drewN n := by
  have e1 : IntKind.u64.wrap ((lo : Int).tdiv 2305843009213691579) = ((lo / 2305843009213691579 : Nat) : Int) := by rw [IntWalk.u64_quo _ _ ⟨by omega, by omega, by omega⟩]; omega
  have e2 : Int.tmod (lo : Int) 2305843009213691579 = ((lo % 2305843009213691579 : Nat) : Int) := by rw [IntWalk.rem_in _ _ (by omega)]; omega
  have e3 : IntKind.u64.wrap ((lo : Int) / 2305843009213691579) = ((lo / 2305843009213691579 : Nat) : Int) := wn (by omega) (by omega)
  have H2 := Lib.hid h2; clear h2
  go_enter Try.func53, Try.ntmps53
  go_wp2_with fail
  go_quiet (fail)
  go_wp2_with fail
  go_ret2
  exact ⟨rfl, _, rfl⟩
set_option maxRecDepth 100000 in
set_option maxHeartbeats 2000000 in
theorem div_Q (hi lo : Nat) (h1 : hi < 1152921504606845789) (h2 : lo < 18446744073709551616) (h0 : hi ≠ 0) (w : World) :
    Calls Try.prog 53 #[.int .u64 hi, .int .u64 lo, .int .u64 1152921504606845789] w fun e w' => e = .returned (.tuple #[.int .u64 (((hi * 18446744073709551616 + lo) / 1152921504606845789 : Nat) : Int), .int .u64 (((hi * 18446744073709551616 + lo) % 1152921504606845789 : Nat) : Int)]) ∧ w' = w := by
  obtain ⟨u, u1, u0, hu, hu1, hu0, he, e1, e2, e3⟩ := set_Q hi lo h1 h2
  obtain ⟨q1, r1, E1, e4, e5⟩ := est0_Q u u1 hu hu1
  obtain ⟨e6, hr⟩ := rest_Q u u1
  obtain ⟨f1, f2⟩ := fin_Q hi lo u u1 u0 h1 h2 hu0 he
  obtain ⟨Q1, hQ1⟩ : ∃ x, (u * 4294967296 + u1) / 18446744073709532624 = x := ⟨_, rfl⟩
  obtain ⟨R1, hR1⟩ : ∃ x, (u * 4294967296 + u1) % 18446744073709532624 = x := ⟨_, rfl⟩
  rw [hQ1, hR1] at e6 f1; rw [hR1] at f2 hr
  obtain ⟨q2, r2, E2, e7, e8⟩ := est0_Q R1 u0 hr hu0
  obtain ⟨Q2, hQ2⟩ : ∃ x, (R1 * 4294967296 + u0) / 18446744073709532624 = x := ⟨_, rfl⟩
  rw [hQ2] at f1 f2
  obtain ⟨zq, hzq⟩ : ∃ x, (hi * 18446744073709551616 + lo) / 1152921504606845789 = x := ⟨_, rfl⟩
  obtain ⟨zr, hzr⟩ : ∃ x, (hi * 18446744073709551616 + lo) % 1152921504606845789 = x := ⟨_, rfl⟩
  rw [hzq] at f1; rw [hzr] at f2; rw [hzq, hzr]
  have b0 : ((hi : Int) == 0) = false := by simp [h0]
  have b1 : decide ((1152921504606845789 : Int) ≤ (hi : Int)) = false := by simp; omega
  have eY := y0_Q
  have Hhu := Lib.hid hu
  have Hhu1 := Lib.hid hu1
  have Hhu0 := Lib.hid hu0
  have HE1 := Lib.hid E1
  have HE2 := Lib.hid E2
  have HhQ1 := Lib.hid hQ1
  have HhR1 := Lib.hid hR1
  have HhQ2 := Lib.hid hQ2
  have Hhr := Lib.hid hr
  clear hu hu1 hu0 he E1 E2 hQ1 hR1 hQ2 hzq hzr h0 h1 h2 hr
  go_enter Try.func53, Try.ntmps53
  go_upto_block 0 with (go_at_call 60; refine (lz_Q _).mono ?_; rintro e w' ⟨rfl, rfl⟩)
  go_cut [15] (fun s wx => s = .int .u64 (Q1 : Int) ∧ w = wx)
  case first =>
    go_wp2_with fail
    go_loop [15, 16] (fun s t => ∃ q r : Nat, s = .int .u64 q ∧ t = .int .u64 r ∧ Hid (EstQ u u1 q r)) (fun s _ => (intOf s).toNat)
    case atStart => exact ⟨q1, r1, rfl, rfl, HE1⟩
    case round =>
      obtain ⟨q, r, rfl, rfl, HE⟩ := hrel
      obtain ⟨m1, m2⟩ := estw_Q HE.out Hhu1.out
      obtain ⟨a, ha⟩ : ∃ a, q * 4294948304 = a := ⟨_, rfl⟩
      obtain ⟨b, hb⟩ : ∃ b, r * 4294967296 + u1 = b := ⟨_, rfl⟩
      rw [ha] at m1; rw [hb] at m2
      by_cases hc : 4294967296 ≤ q ∨ b < a
      · obtain ⟨hq, d1, d2, hE2, hx⟩ := estx_Q HE.out Hhu.out Hhu1.out (by rw [ha, hb]; exact hc)
        rw [HhQ1.out] at hx
        obtain ⟨r3, hr3⟩ : ∃ x, r + 4294967295 = x := ⟨_, rfl⟩
        rw [hr3] at d2 hE2 hx
        have HX := Lib.hid hx; have HE2 := Lib.hid hE2; have Hq := Lib.hid hq
        clear hx hE2 hq ha hb hr3
        by_cases c3 : r3 < 4294967296
        · have c3' : decide ((4294967296 : Int) ≤ (r3 : Int)) = false := by simp; omega
          have C3 := Lib.hid c3; clear c3
          by_cases c1 : 4294967296 ≤ q
          · have c1' : decide ((4294967296 : Int) ≤ (q : Int)) = true := by simp; omega
            clear hc c1
            go_wp2_with fail
            go_round
            case rel => exact ⟨q - 1, r3, rfl, rfl, Lib.hid (HE2.out C3.out)⟩
            case measure => have := Hq.out; simp [intOf]; omega
          · have c1' : decide ((4294967296 : Int) ≤ (q : Int)) = false := by simp; omega
            have c2 : decide (b < a) = true := by simp; omega
            clear hc c1
            go_wp2_with fail
            go_round
            case rel => exact ⟨q - 1, r3, rfl, rfl, Lib.hid (HE2.out C3.out)⟩
            case measure => have := Hq.out; simp [intOf]; omega
        · have c3' : decide ((4294967296 : Int) ≤ (r3 : Int)) = true := by simp; omega
          have C3 := Lib.hid c3; clear c3
          by_cases c1 : 4294967296 ≤ q
          · have c1' : decide ((4294967296 : Int) ≤ (q : Int)) = true := by simp; omega
            clear hc c1
            go_wp2_with fail
            go_meet
            case rel => exact ⟨by rw [HX.out (by have := C3.out; omega)], rfl⟩
          · have c1' : decide ((4294967296 : Int) ≤ (q : Int)) = false := by simp; omega
            have c2 : decide (b < a) = true := by simp; omega
            clear hc c1
            go_wp2_with fail
            go_meet
            case rel => exact ⟨by rw [HX.out (by have := C3.out; omega)], rfl⟩
      · have hx := este_Q HE.out (by rw [ha, hb]; exact hc)
        rw [HhQ1.out] at hx
        have c1' : decide ((4294967296 : Int) ≤ (q : Int)) = false := by simp; omega
        have c2 : decide (b < a) = false := by simp; omega
        have HX := Lib.hid hx
        clear hc hx ha hb
        go_wp2_with fail
        go_meet
        case rel => exact ⟨by rw [HX.out], rfl⟩
  case rest =>
  obtain ⟨rfl, rfl⟩ := hcut
  go_upto_block 2 with fail
  go_cut [18] (fun s wx => s = .int .u64 (Q2 : Int) ∧ w = wx)
  case first =>
    go_wp2_with fail
    go_loop [18, 16] (fun s t => ∃ q r : Nat, s = .int .u64 q ∧ t = .int .u64 r ∧ Hid (EstQ R1 u0 q r)) (fun s _ => (intOf s).toNat)
    case atStart => exact ⟨q2, r2, rfl, rfl, HE2⟩
    case round =>
      obtain ⟨q, r, rfl, rfl, HE⟩ := hrel
      obtain ⟨m1, m2⟩ := estw_Q HE.out Hhu0.out
      obtain ⟨a, ha⟩ : ∃ a, q * 4294948304 = a := ⟨_, rfl⟩
      obtain ⟨b, hb⟩ : ∃ b, r * 4294967296 + u0 = b := ⟨_, rfl⟩
      rw [ha] at m1; rw [hb] at m2
      by_cases hc : 4294967296 ≤ q ∨ b < a
      · obtain ⟨hq, d1, d2, hE2, hx⟩ := estx_Q HE.out Hhr.out Hhu0.out (by rw [ha, hb]; exact hc)
        rw [HhQ2.out] at hx
        obtain ⟨r3, hr3⟩ : ∃ x, r + 4294967295 = x := ⟨_, rfl⟩
        rw [hr3] at d2 hE2 hx
        have HX := Lib.hid hx; have HE2 := Lib.hid hE2; have Hq := Lib.hid hq
        clear hx hE2 hq ha hb hr3
        by_cases c3 : r3 < 4294967296
        · have c3' : decide ((4294967296 : Int) ≤ (r3 : Int)) = false := by simp; omega
          have C3 := Lib.hid c3; clear c3
          by_cases c1 : 4294967296 ≤ q
          · have c1' : decide ((4294967296 : Int) ≤ (q : Int)) = true := by simp; omega
            clear hc c1
            go_wp2_with fail
            go_round
            case rel => exact ⟨q - 1, r3, rfl, rfl, Lib.hid (HE2.out C3.out)⟩
            case measure => have := Hq.out; simp [intOf]; omega
          · have c1' : decide ((4294967296 : Int) ≤ (q : Int)) = false := by simp; omega
            have c2 : decide (b < a) = true := by simp; omega
            clear hc c1
            go_wp2_with fail
            go_round
            case rel => exact ⟨q - 1, r3, rfl, rfl, Lib.hid (HE2.out C3.out)⟩
            case measure => have := Hq.out; simp [intOf]; omega
        · have c3' : decide ((4294967296 : Int) ≤ (r3 : Int)) = true := by simp; omega
          have C3 := Lib.hid c3; clear c3
          by_cases c1 : 4294967296 ≤ q
          · have c1' : decide ((4294967296 : Int) ≤ (q : Int)) = true := by simp; omega
            clear hc c1
            go_wp2_with fail
            go_meet
            case rel => exact ⟨by rw [HX.out (by have := C3.out; omega)], rfl⟩
          · have c1' : decide ((4294967296 : Int) ≤ (q : Int)) = false := by simp; omega
            have c2 : decide (b < a) = true := by simp; omega
            clear hc c1
            go_wp2_with fail
            go_meet
            case rel => exact ⟨by rw [HX.out (by have := C3.out; omega)], rfl⟩
      · have hx := este_Q HE.out (by rw [ha, hb]; exact hc)
        rw [HhQ2.out] at hx
        have c1' : decide ((4294967296 : Int) ≤ (q : Int)) = false := by simp; omega
        have c2 : decide (b < a) = false := by simp; omega
        have HX := Lib.hid hx
        clear hc hx ha hb
        go_wp2_with fail
        go_meet
        case rel => exact ⟨by rw [HX.out], rfl⟩
  case rest =>
  obtain ⟨rfl, rfl⟩ := hcut
  go_wp2_with fail
  go_ret2
  exact ⟨rfl, rfl⟩
set_option maxRecDepth 100000 in
theorem div0_Q (lo : Nat) (h2 : lo < 18446744073709551616) (w : World) :
    Calls Try.prog 53 #[.int .u64 0, .int .u64 lo, .int .u64 1152921504606845789] w fun e w' => e = .returned (.tuple #[.int .u64 ((lo / 1152921504606845789 : Nat) : Int), .int .u64 ((lo % 1152921504606845789 : Nat) : Int)]) ∧ ∃ n, w' = w.drewN n := by
  have e1 : IntKind.u64.wrap ((lo : Int).tdiv 1152921504606845789) = ((lo / 1152921504606845789 : Nat) : Int) := by rw [IntWalk.u64_quo _ _ ⟨by omega, by omega, by omega⟩]; omega
  have e2 : Int.tmod (lo : Int) 1152921504606845789 = ((lo % 1152921504606845789 : Nat) : Int) := by rw [IntWalk.rem_in _ _ (by omega)]; omega
  have e3 : IntKind.u64.wrap ((lo : Int) / 1152921504606845789) = ((lo / 1152921504606845789 : Nat) : Int) := wn (by omega) (by omega)
  have H2 := Lib.hid h2; clear h2
  go_enter Try.func53, Try.ntmps53
  go_wp2_with fail
  go_quiet (fail)
  go_wp2_with fail
  go_ret2
  exact ⟨rfl, _, rfl⟩
end Go.Proofs.Ytpcodholllaceaa
