import Derived.Test.YtgaanndidcdbpaaGen
import Derived.IntWalk
import Derived.Laws.BitsLemmas
import Derived.Laws.Bits64b
import Derived.Shelf.Bits.Mul64
import Derived.Test.YtgaanndidcdbpaaProg
import Derived.Deep.CutBlock
import Derived.Deep.DeepCutAuto
import Derived.RegionTactic
import Derived.Test.YtgaanndidcdbpaaZA
namespace Go.Proofs.Ytgaanndidcdbpaa
open Go.RowKit

/- math/bits at the two moduli -/
set_option maxRecDepth 100000 in
theorem len_P (w : World) : Calls Try.prog 106 #[.int .u64 2305843009213691579] w fun e w' => e = .returned (.int .i64 61) ∧ w = w' := by
  go_enter Try.func106, Try.ntmps106
  go_wp2_with fail
  go_ret
  exact ⟨by kernel_rfl, rfl⟩
set_option maxRecDepth 100000 in
theorem len_Q (w : World) : Calls Try.prog 106 #[.int .u64 1152921504606845789] w fun e w' => e = .returned (.int .i64 60) ∧ w = w' := by
  go_enter Try.func106, Try.ntmps106
  go_wp2_with fail
  go_ret
  exact ⟨by kernel_rfl, rfl⟩
set_option maxRecDepth 100000 in
theorem lz_P (w : World) : Calls Try.prog 96 #[.int .u64 2305843009213691579] w fun e w' => e = .returned (.int .i64 3) ∧ w = w' := by
  go_enter Try.func96, Try.ntmps96
  go_wp2_with (go_at_call 106; refine (len_P _).mono ?_; rintro e w' ⟨rfl, rfl⟩)
  go_ret
  exact ⟨by kernel_rfl, rfl⟩
set_option maxRecDepth 100000 in
theorem lz_Q (w : World) : Calls Try.prog 96 #[.int .u64 1152921504606845789] w fun e w' => e = .returned (.int .i64 4) ∧ w = w' := by
  go_enter Try.func96, Try.ntmps96
  go_wp2_with (go_at_call 106; refine (len_Q _).mono ?_; rintro e w' ⟨rfl, rfl⟩)
  go_ret
  exact ⟨by kernel_rfl, rfl⟩
end Go.Proofs.Ytgaanndidcdbpaa
namespace Go.Proofs.Ytgaanndidcdbpaa

/- the estimate of a digit, Knuth's algorithm D -/
section
variable {B Y y1 y0 u u1 q r : Nat}
theorem knuL (hY : Y = y1 * B + y0) (h1 : q * y1 + r = u) (hu : u < Y) (hu1 : u1 < B) (hc : B ≤ q ∨ r * B + u1 < q * y0) : u * B + u1 < q * Y := by
  rcases hc with hc | hc
  · have h2 : (u + 1) * B ≤ Y * B := Nat.mul_le_mul_right _ hu
    have h3 : B * Y ≤ q * Y := Nat.mul_le_mul_right _ hc
    rw [Nat.mul_comm B Y] at h3
    rw [Nat.add_mul, Nat.one_mul] at h2
    omega
  · subst h1 hY
    have e : q * (y1 * B + y0) = q * y1 * B + q * y0 := by rw [Nat.mul_add, Nat.mul_assoc]
    rw [e, Nat.add_mul]
    omega
theorem knuQ (hY : Y = y1 * B + y0) (hy0 : y0 ≤ B) (h1 : (q + 1) * y1 + r = u) (h4 : q ≤ B) (hr : B ≤ r + y1) : q * Y ≤ u * B + u1 := by
  subst h1 hY
  have e : q * (y1 * B + y0) = q * y1 * B + q * y0 := by rw [Nat.mul_add, Nat.mul_assoc]
  have e2 : ((q + 1) * y1 + r) * B = q * y1 * B + (r + y1) * B := by grind
  have h5 : q * y0 ≤ B * B := Nat.mul_le_mul h4 hy0
  have h6 : B * B ≤ (r + y1) * B := Nat.mul_le_mul_right _ hr
  rw [e, e2]
  omega
theorem knuS (h1 : (q + 1) * y1 + r = u) : q * y1 + (r + y1) = u := by subst h1; grind
theorem knuE (hY : Y = y1 * B + y0) (h1 : q * y1 + r = u) (h2 : q * y0 ≤ r * B + u1) : q * Y ≤ u * B + u1 := by
  subst h1 hY
  have e : q * (y1 * B + y0) = q * y1 * B + q * y0 := by rw [Nat.mul_add, Nat.mul_assoc]
  rw [e, Nat.add_mul]
  omega
/-- the two digits and the remainder -/
theorem knuF {p k z u0 q0 r0 qq rr : Nat} (hk : Y = p * k) (hk0 : 0 < k) (he : (u * B + u1) * B + u0 = z * k) (hd : Y * q + r = u * B + u1) (hd2 : Y * q0 + r0 = r * B + u0) (hm2 : r0 < Y) (hd3 : p * qq + rr = z) (hm3 : rr < p) :
    qq = q * B + q0 ∧ r0 = rr * k := by
  have e : Y * qq + rr * k = Y * (q * B + q0) + r0 := by
    subst hd3 hk
    have : (p * qq + rr) * k = (u * B + u1) * B + u0 := he.symm
    rw [← hd, show (p * k * q + r) * B = p * k * q * B + r * B from Nat.add_mul _ _ _, Nat.add_assoc] at this
    have e2 : p * k * (q * B + q0) + r0 = p * k * q * B + (p * k * q0 + r0) := by grind
    rw [e2, hd2]
    have e3 : p * k * qq + rr * k = (p * qq + rr) * k := by grind
    rw [e3, this]
  have hr : rr * k < Y := by rw [hk]; exact Nat.mul_lt_mul_of_pos_right hm3 hk0
  generalize q * B + q0 = n at e ⊢
  rcases Nat.lt_trichotomy qq n with h | h | h
  · exfalso
    have : Y * (qq + 1) ≤ Y * n := Nat.mul_le_mul_left _ h
    rw [Nat.mul_add] at this
    omega
  · subst h; exact ⟨rfl, by omega⟩
  · exfalso
    have : Y * (n + 1) ≤ Y * qq := Nat.mul_le_mul_left _ h
    rw [Nat.mul_add] at this
    omega
end
/- numbers of 64 bits without a sign -/
theorem w64 (n : Int) (h0 : 0 ≤ n) (h1 : n < 2 ^ 64) : IntKind.u64.wrap n = n := by rw [IntKind.wrap_u64]; exact Int.emod_eq_of_lt h0 (by simpa using h1)
theorem w64n (n : Nat) (h1 : n < 18446744073709551616) : IntKind.u64.wrap (n : Int) = (n : Int) := w64 _ (by omega) (by omega)
theorem wn {x : Int} {n : Nat} (h : x = (n : Int)) (hn : n < 18446744073709551616) : IntKind.u64.wrap x = (n : Int) := by rw [h]; exact w64n n hn
theorem subw {q : Nat} (h1 : 1 ≤ q) (h4 : q ≤ 4294967297) : IntKind.u64.wrap ((q : Int) - 1) = ((q - 1 : Nat) : Int) := wn (by omega) (by omega)
theorem and_mask (x : Nat) (h : x < 18446744073709551616) : bits .and .u64 (x : Int) 4294967295 = ((x % 4294967296 : Nat) : Int) := by
  have := bits_mask .u64 64 (by decide) w64 32 (by decide) (x : Int) (by omega) (by omega)
  have e : ((2 : Int) ^ 32 - 1) = 4294967295 := by decide
  have e2 : ((2 : Int) ^ 32) = 4294967296 := by decide
  rw [e, e2] at this
  rw [this]; omega
theorem and_one (x : Nat) (h : x < 18446744073709551616) : bits .and .u64 (x : Int) 1 = ((x % 2 : Nat) : Int) := by
  have := bits_mask .u64 64 (by decide) w64 1 (by decide) (x : Int) (by omega) (by omega)
  have e : ((2 : Int) ^ 1 - 1) = 1 := by decide
  have e2 : ((2 : Int) ^ 1) = 2 := by decide
  rw [e, e2] at this
  rw [this]; omega
/- the modulus P: 18446744073709532632 = 4294967295 2^32 + 4294948312 -/
theorem y0_P : bits .and .u64 18446744073709532632 4294967295 = 4294948312 := by decide +kernel
theorem set_P (hi lo : Nat) (h1 : hi < 2305843009213691579) (h2 : lo < 18446744073709551616) : ∃ u u1 u0 : Nat, u < 18446744073709532632 ∧ u1 < 4294967296 ∧ u0 < 4294967296 ∧ (u * 4294967296 + u1) * 4294967296 + u0 = (hi * 18446744073709551616 + lo) * 8 ∧
    bits BinOp.or IntKind.u64 (IntKind.u64.wrap ((hi : Int) * 8)) ((lo : Int) / 2305843009213693952) = (u : Int) ∧ IntKind.u64.wrap ((lo : Int) * 8) / 4294967296 = (u1 : Int) ∧ bits BinOp.and IntKind.u64 (IntKind.u64.wrap ((lo : Int) * 8)) 4294967295 = (u0 : Int) := by
  have e1 : IntKind.u64.wrap ((hi : Int) * 8) = ((hi * 8 : Nat) : Int) := wn (by omega) (by omega)
  have e2 : IntKind.u64.wrap ((lo : Int) * 8) = ((lo * 8 % 18446744073709551616 : Nat) : Int) := by rw [IntKind.wrap_u64]; omega
  refine ⟨hi * 8 + lo / 2305843009213693952, lo * 8 % 18446744073709551616 / 4294967296, lo * 8 % 18446744073709551616 % 4294967296, by omega, by omega, by omega, by omega, ?_, ?_, ?_⟩
  · rw [e1]
    have e3 : ((2 : Int) ^ 3) = 8 := by decide
    have e4 : ((2 : Int) ^ 64) = 18446744073709551616 := by decide
    have := bits_join .u64 64 (by decide) w64 3 ((hi * 8 : Nat) : Int) ((lo : Int) / 2305843009213693952) (by omega) (by rw [e3]; omega) (by rw [e4]; omega) (by omega) (by rw [e3]; omega) (by rw [e4]; omega)
    rw [this]; omega
  · rw [e2]; omega
  · rw [e2]; exact and_mask _ (by omega)
/-- the state of the estimate: q is no less than the quotient -/
structure EstP (u u1 q r : Nat) : Prop where
  sum : q * 4294967295 + r = u
  low : u * 4294967296 + u1 < (q + 1) * 18446744073709532632
  rem : r < 4294967296
  most : q ≤ 4294967297
theorem est0_P (u u1 : Nat) (hu : u < 18446744073709532632) (hu1 : u1 < 4294967296) : ∃ q r : Nat, EstP u u1 q r ∧ IntKind.u64.wrap ((u : Int) / 4294967295) = (q : Int) ∧ IntKind.u64.wrap ((u : Int) - IntKind.u64.wrap ((q : Int) * 4294967295)) = (r : Int) := by
  have hd := Nat.div_add_mod u 4294967295
  have hm := Nat.mod_lt u (show 0 < 4294967295 by omega)
  refine ⟨u / 4294967295, u % 4294967295, ⟨by omega, by omega, by omega, by omega⟩, wn (by omega) (by omega), ?_⟩
  have e1 : IntKind.u64.wrap (((u / 4294967295 : Nat) : Int) * 4294967295) = ((u / 4294967295 * 4294967295 : Nat) : Int) := wn (by omega) (by omega)
  rw [e1]; exact wn (by omega) (by omega)
theorem estw_P {u u1 q r : Nat} (h : EstP u u1 q r) (hu1 : u1 < 4294967296) : IntKind.u64.wrap ((q : Int) * 4294948312) = ((q * 4294948312 : Nat) : Int) ∧ IntKind.u64.wrap (IntKind.u64.wrap (4294967296 * (r : Int)) + (u1 : Int)) = ((r * 4294967296 + u1 : Nat) : Int) := by
  have h3 := h.rem
  have h4 := h.most
  clear h
  have e1 : IntKind.u64.wrap (4294967296 * (r : Int)) = ((r * 4294967296 : Nat) : Int) := wn (by omega) (by omega)
  refine ⟨wn (by omega) (by omega), ?_⟩
  rw [e1]
  exact wn (by omega) (by omega)
theorem Y_P : 18446744073709532632 = 4294967295 * 4294967296 + 4294948312 := by decide +kernel
theorem addw_P {r : Nat} (h3 : r < 4294967296) : IntKind.u64.wrap ((r : Int) + 4294967295) = ((r + 4294967295 : Nat) : Int) := wn (by omega) (by omega)
theorem estx_P {u u1 q r : Nat} (h : EstP u u1 q r) (hu : u < 18446744073709532632) (hu1 : u1 < 4294967296) (hc : 4294967296 ≤ q ∨ r * 4294967296 + u1 < q * 4294948312) : 1 ≤ q ∧ IntKind.u64.wrap ((q : Int) - 1) = ((q - 1 : Nat) : Int) ∧ IntKind.u64.wrap ((r : Int) + 4294967295) = ((r + 4294967295 : Nat) : Int) ∧
    (r + 4294967295 < 4294967296 → EstP u u1 (q - 1) (r + 4294967295)) ∧ (4294967296 ≤ r + 4294967295 → (u * 4294967296 + u1) / 18446744073709532632 = q - 1) := by
  have hl := knuL Y_P h.sum hu hu1 hc
  have hq : 1 ≤ q := Nat.pos_of_ne_zero fun e => by rw [e, Nat.zero_mul] at hl; exact absurd hl (Nat.not_lt_zero _)
  have hw := subw hq h.most
  have h1 := h.sum
  have h4 := h.most
  obtain ⟨n, rfl⟩ : ∃ n, q = n + 1 := ⟨q - 1, by clear hl h1 hc hu h; omega⟩
  have hn : n + 1 - 1 = n := rfl
  rw [hn] at hw ⊢
  refine ⟨hq, hw, addw_P h.rem, fun hr => ⟨knuS h1, hl, hr, by clear hl h1 hc hu h hw; omega⟩, fun hr => ?_⟩
  exact Nat.div_eq_of_lt_le (knuQ Y_P (by decide +kernel) h1 (by clear hl h1 hc hu h hw; omega) hr) hl
theorem este_P {u u1 q r : Nat} (h : EstP u u1 q r) (hc : ¬ (4294967296 ≤ q ∨ r * 4294967296 + u1 < q * 4294948312)) : (u * 4294967296 + u1) / 18446744073709532632 = q :=
  Nat.div_eq_of_lt_le (knuE Y_P h.sum (Nat.le_of_not_lt fun e => hc (.inr e))) h.low
theorem restA_P (u u1 q r : Nat) (hd : 18446744073709532632 * q + r = u * 4294967296 + u1) (hm : r < 18446744073709532632) : IntKind.u64.wrap (IntKind.u64.wrap (IntKind.u64.wrap ((u : Int) * 4294967296) + (u1 : Int)) - IntKind.u64.wrap ((q : Int) * 18446744073709532632)) = (r : Int) := by
  simp only [IntKind.wrap_u64]
  omega
theorem rest_P (u u1 : Nat) : IntKind.u64.wrap (IntKind.u64.wrap (IntKind.u64.wrap ((u : Int) * 4294967296) + (u1 : Int)) - IntKind.u64.wrap ((((u * 4294967296 + u1) / 18446744073709532632 : Nat) : Int) * 18446744073709532632)) = (((u * 4294967296 + u1) % 18446744073709532632 : Nat) : Int) ∧ (u * 4294967296 + u1) % 18446744073709532632 < 18446744073709532632 :=
  ⟨restA_P u u1 _ _ (Nat.div_add_mod _ _) (Nat.mod_lt _ (by omega)), Nat.mod_lt _ (by omega)⟩
theorem finA_P (z u u1 u0 q r q0 r0 qq rr : Nat) (hz : z < 2305843009213691579 * 18446744073709551616) (he : (u * 4294967296 + u1) * 4294967296 + u0 = z * 8)
    (hd : 18446744073709532632 * q + r = u * 4294967296 + u1) (hd2 : 18446744073709532632 * q0 + r0 = r * 4294967296 + u0) (hm2 : r0 < 18446744073709532632) (hd3 : 2305843009213691579 * qq + rr = z) (hm3 : rr < 2305843009213691579) (hq0 : q0 < 4294967296) :
    IntKind.u64.wrap (IntKind.u64.wrap ((q : Int) * 4294967296) + (q0 : Int)) = (qq : Int) ∧ (r0 : Int) / 8 = (rr : Int) := by
  have hq : qq = q * 4294967296 + q0 ∧ r0 = rr * 8 := knuF (by decide +kernel) (by decide) he hd hd2 hm2 hd3 hm3
  obtain ⟨h1, h2⟩ := hq
  have hqq : qq < 18446744073709551616 := by
    clear hd hd2 h1 h2 he
    omega
  refine ⟨?_, by clear hd hd2 hd3 he hz hqq h1; omega⟩
  clear hd hd2 hd3 he hz h2
  rw [wn (x := (q : Int) * 4294967296) (n := q * 4294967296) (by omega) (by omega)]
  exact wn (by omega) (by omega)
theorem fin_P (hi lo u u1 u0 : Nat) (h1 : hi < 2305843009213691579) (h2 : lo < 18446744073709551616) (hu0 : u0 < 4294967296) (he : (u * 4294967296 + u1) * 4294967296 + u0 = (hi * 18446744073709551616 + lo) * 8) :
    IntKind.u64.wrap (IntKind.u64.wrap ((((u * 4294967296 + u1) / 18446744073709532632 : Nat) : Int) * 4294967296) + (((((u * 4294967296 + u1) % 18446744073709532632) * 4294967296 + u0) / 18446744073709532632 : Nat) : Int)) = (((hi * 18446744073709551616 + lo) / 2305843009213691579 : Nat) : Int) ∧
    IntKind.u64.wrap (IntKind.u64.wrap (IntKind.u64.wrap ((((u * 4294967296 + u1) % 18446744073709532632 : Nat) : Int) * 4294967296) + (u0 : Int)) - IntKind.u64.wrap ((((((u * 4294967296 + u1) % 18446744073709532632) * 4294967296 + u0) / 18446744073709532632 : Nat) : Int) * 18446744073709532632)) / 8 = (((hi * 18446744073709551616 + lo) % 2305843009213691579 : Nat) : Int) := by
  rw [(rest_P ((u * 4294967296 + u1) % 18446744073709532632) u0).1]
  refine finA_P (hi * 18446744073709551616 + lo) u u1 u0 _ ((u * 4294967296 + u1) % 18446744073709532632) _ _ _ _ (by omega) he (Nat.div_add_mod _ _) (Nat.div_add_mod _ _) (Nat.mod_lt _ (by omega)) (Nat.div_add_mod _ _) (Nat.mod_lt _ (by omega)) ?_
  have := Nat.mod_lt (u * 4294967296 + u1) (show 0 < 18446744073709532632 by omega)
  omega
/- the modulus Q: 18446744073709532624 = 4294967295 2^32 + 4294948304 -/
theorem y0_Q : bits .and .u64 18446744073709532624 4294967295 = 4294948304 := by decide +kernel
theorem set_Q (hi lo : Nat) (h1 : hi < 1152921504606845789) (h2 : lo < 18446744073709551616) : ∃ u u1 u0 : Nat, u < 18446744073709532624 ∧ u1 < 4294967296 ∧ u0 < 4294967296 ∧ (u * 4294967296 + u1) * 4294967296 + u0 = (hi * 18446744073709551616 + lo) * 16 ∧
    bits BinOp.or IntKind.u64 (IntKind.u64.wrap ((hi : Int) * 16)) ((lo : Int) / 1152921504606846976) = (u : Int) ∧ IntKind.u64.wrap ((lo : Int) * 16) / 4294967296 = (u1 : Int) ∧ bits BinOp.and IntKind.u64 (IntKind.u64.wrap ((lo : Int) * 16)) 4294967295 = (u0 : Int) := by
  have e1 : IntKind.u64.wrap ((hi : Int) * 16) = ((hi * 16 : Nat) : Int) := wn (by omega) (by omega)
  have e2 : IntKind.u64.wrap ((lo : Int) * 16) = ((lo * 16 % 18446744073709551616 : Nat) : Int) := by rw [IntKind.wrap_u64]; omega
  refine ⟨hi * 16 + lo / 1152921504606846976, lo * 16 % 18446744073709551616 / 4294967296, lo * 16 % 18446744073709551616 % 4294967296, by omega, by omega, by omega, by omega, ?_, ?_, ?_⟩
  · rw [e1]
    have e3 : ((2 : Int) ^ 4) = 16 := by decide
    have e4 : ((2 : Int) ^ 64) = 18446744073709551616 := by decide
    have := bits_join .u64 64 (by decide) w64 4 ((hi * 16 : Nat) : Int) ((lo : Int) / 1152921504606846976) (by omega) (by rw [e3]; omega) (by rw [e4]; omega) (by omega) (by rw [e3]; omega) (by rw [e4]; omega)
    rw [this]; omega
  · rw [e2]; omega
  · rw [e2]; exact and_mask _ (by omega)
/-- the state of the estimate: q is no less than the quotient -/
structure EstQ (u u1 q r : Nat) : Prop where
  sum : q * 4294967295 + r = u
  low : u * 4294967296 + u1 < (q + 1) * 18446744073709532624
  rem : r < 4294967296
  most : q ≤ 4294967297
theorem est0_Q (u u1 : Nat) (hu : u < 18446744073709532624) (hu1 : u1 < 4294967296) : ∃ q r : Nat, EstQ u u1 q r ∧ IntKind.u64.wrap ((u : Int) / 4294967295) = (q : Int) ∧ IntKind.u64.wrap ((u : Int) - IntKind.u64.wrap ((q : Int) * 4294967295)) = (r : Int) := by
  have hd := Nat.div_add_mod u 4294967295
  have hm := Nat.mod_lt u (show 0 < 4294967295 by omega)
  refine ⟨u / 4294967295, u % 4294967295, ⟨by omega, by omega, by omega, by omega⟩, wn (by omega) (by omega), ?_⟩
  have e1 : IntKind.u64.wrap (((u / 4294967295 : Nat) : Int) * 4294967295) = ((u / 4294967295 * 4294967295 : Nat) : Int) := wn (by omega) (by omega)
  rw [e1]; exact wn (by omega) (by omega)
theorem estw_Q {u u1 q r : Nat} (h : EstQ u u1 q r) (hu1 : u1 < 4294967296) : IntKind.u64.wrap ((q : Int) * 4294948304) = ((q * 4294948304 : Nat) : Int) ∧ IntKind.u64.wrap (IntKind.u64.wrap (4294967296 * (r : Int)) + (u1 : Int)) = ((r * 4294967296 + u1 : Nat) : Int) := by
  have h3 := h.rem
  have h4 := h.most
  clear h
  have e1 : IntKind.u64.wrap (4294967296 * (r : Int)) = ((r * 4294967296 : Nat) : Int) := wn (by omega) (by omega)
  refine ⟨wn (by omega) (by omega), ?_⟩
  rw [e1]
  exact wn (by omega) (by omega)
theorem Y_Q : 18446744073709532624 = 4294967295 * 4294967296 + 4294948304 := by decide +kernel
theorem addw_Q {r : Nat} (h3 : r < 4294967296) : IntKind.u64.wrap ((r : Int) + 4294967295) = ((r + 4294967295 : Nat) : Int) := wn (by omega) (by omega)
theorem estx_Q {u u1 q r : Nat} (h : EstQ u u1 q r) (hu : u < 18446744073709532624) (hu1 : u1 < 4294967296) (hc : 4294967296 ≤ q ∨ r * 4294967296 + u1 < q * 4294948304) : 1 ≤ q ∧ IntKind.u64.wrap ((q : Int) - 1) = ((q - 1 : Nat) : Int) ∧ IntKind.u64.wrap ((r : Int) + 4294967295) = ((r + 4294967295 : Nat) : Int) ∧
    (r + 4294967295 < 4294967296 → EstQ u u1 (q - 1) (r + 4294967295)) ∧ (4294967296 ≤ r + 4294967295 → (u * 4294967296 + u1) / 18446744073709532624 = q - 1) := by
  have hl := knuL Y_Q h.sum hu hu1 hc
  have hq : 1 ≤ q := Nat.pos_of_ne_zero fun e => by rw [e, Nat.zero_mul] at hl; exact absurd hl (Nat.not_lt_zero _)
  have hw := subw hq h.most
  have h1 := h.sum
  have h4 := h.most
  obtain ⟨n, rfl⟩ : ∃ n, q = n + 1 := ⟨q - 1, by clear hl h1 hc hu h; omega⟩
  have hn : n + 1 - 1 = n := rfl
  rw [hn] at hw ⊢
  refine ⟨hq, hw, addw_Q h.rem, fun hr => ⟨knuS h1, hl, hr, by clear hl h1 hc hu h hw; omega⟩, fun hr => ?_⟩
  exact Nat.div_eq_of_lt_le (knuQ Y_Q (by decide +kernel) h1 (by clear hl h1 hc hu h hw; omega) hr) hl
theorem este_Q {u u1 q r : Nat} (h : EstQ u u1 q r) (hc : ¬ (4294967296 ≤ q ∨ r * 4294967296 + u1 < q * 4294948304)) : (u * 4294967296 + u1) / 18446744073709532624 = q :=
  Nat.div_eq_of_lt_le (knuE Y_Q h.sum (Nat.le_of_not_lt fun e => hc (.inr e))) h.low
theorem restA_Q (u u1 q r : Nat) (hd : 18446744073709532624 * q + r = u * 4294967296 + u1) (hm : r < 18446744073709532624) : IntKind.u64.wrap (IntKind.u64.wrap (IntKind.u64.wrap ((u : Int) * 4294967296) + (u1 : Int)) - IntKind.u64.wrap ((q : Int) * 18446744073709532624)) = (r : Int) := by
  simp only [IntKind.wrap_u64]
  omega
theorem rest_Q (u u1 : Nat) : IntKind.u64.wrap (IntKind.u64.wrap (IntKind.u64.wrap ((u : Int) * 4294967296) + (u1 : Int)) - IntKind.u64.wrap ((((u * 4294967296 + u1) / 18446744073709532624 : Nat) : Int) * 18446744073709532624)) = (((u * 4294967296 + u1) % 18446744073709532624 : Nat) : Int) ∧ (u * 4294967296 + u1) % 18446744073709532624 < 18446744073709532624 :=
  ⟨restA_Q u u1 _ _ (Nat.div_add_mod _ _) (Nat.mod_lt _ (by omega)), Nat.mod_lt _ (by omega)⟩
theorem finA_Q (z u u1 u0 q r q0 r0 qq rr : Nat) (hz : z < 1152921504606845789 * 18446744073709551616) (he : (u * 4294967296 + u1) * 4294967296 + u0 = z * 16)
    (hd : 18446744073709532624 * q + r = u * 4294967296 + u1) (hd2 : 18446744073709532624 * q0 + r0 = r * 4294967296 + u0) (hm2 : r0 < 18446744073709532624) (hd3 : 1152921504606845789 * qq + rr = z) (hm3 : rr < 1152921504606845789) (hq0 : q0 < 4294967296) :
    IntKind.u64.wrap (IntKind.u64.wrap ((q : Int) * 4294967296) + (q0 : Int)) = (qq : Int) ∧ (r0 : Int) / 16 = (rr : Int) := by
  have hq : qq = q * 4294967296 + q0 ∧ r0 = rr * 16 := knuF (by decide +kernel) (by decide) he hd hd2 hm2 hd3 hm3
  obtain ⟨h1, h2⟩ := hq
  have hqq : qq < 18446744073709551616 := by
    clear hd hd2 h1 h2 he
    omega
  refine ⟨?_, by clear hd hd2 hd3 he hz hqq h1; omega⟩
  clear hd hd2 hd3 he hz h2
  rw [wn (x := (q : Int) * 4294967296) (n := q * 4294967296) (by omega) (by omega)]
  exact wn (by omega) (by omega)
theorem fin_Q (hi lo u u1 u0 : Nat) (h1 : hi < 1152921504606845789) (h2 : lo < 18446744073709551616) (hu0 : u0 < 4294967296) (he : (u * 4294967296 + u1) * 4294967296 + u0 = (hi * 18446744073709551616 + lo) * 16) :
    IntKind.u64.wrap (IntKind.u64.wrap ((((u * 4294967296 + u1) / 18446744073709532624 : Nat) : Int) * 4294967296) + (((((u * 4294967296 + u1) % 18446744073709532624) * 4294967296 + u0) / 18446744073709532624 : Nat) : Int)) = (((hi * 18446744073709551616 + lo) / 1152921504606845789 : Nat) : Int) ∧
    IntKind.u64.wrap (IntKind.u64.wrap (IntKind.u64.wrap ((((u * 4294967296 + u1) % 18446744073709532624 : Nat) : Int) * 4294967296) + (u0 : Int)) - IntKind.u64.wrap ((((((u * 4294967296 + u1) % 18446744073709532624) * 4294967296 + u0) / 18446744073709532624 : Nat) : Int) * 18446744073709532624)) / 16 = (((hi * 18446744073709551616 + lo) % 1152921504606845789 : Nat) : Int) := by
  rw [(rest_Q ((u * 4294967296 + u1) % 18446744073709532624) u0).1]
  refine finA_Q (hi * 18446744073709551616 + lo) u u1 u0 _ ((u * 4294967296 + u1) % 18446744073709532624) _ _ _ _ (by omega) he (Nat.div_add_mod _ _) (Nat.div_add_mod _ _) (Nat.mod_lt _ (by omega)) (Nat.div_add_mod _ _) (Nat.mod_lt _ (by omega)) ?_
  have := Nat.mod_lt (u * 4294967296 + u1) (show 0 < 18446744073709532624 by omega)
  omega
end Go.Proofs.Ytgaanndidcdbpaa
/- math/bits.Mul64 in the numbers of this program (after the kit's lay-shelf and lay-plain). -/
namespace Go.Proofs
open Go.Shelf
def Try.lays264_ren : Go.Shelf.Ren := ⟨fun | 264 => 61 | n => n, fun | 53 => 23 | 46 => 146 | n => n, fun | n => n⟩
theorem Try.lays264 : Go.Proofs.Lays.n264 Try.prog Try.lays264_ren := {
  mixed := by kernel_rfl
  f264 := Try.func61.trans (congrArg some (by kernel_rfl))
  t46 := Try.underlying146
  a46 := Try.isAgg146
  z46 := Try.sizeOf146
  v46 := Try.zeroValue146
  t53 := Try.underlying23
  a53 := Try.isAgg23
  z53 := Try.sizeOf23
  v53 := Try.zeroValue23 }
open Go.RowKit Go.Lib in
theorem Try.bits_Mul64 (x y : Nat) (hx : x < 18446744073709551616) (hy : y < 18446744073709551616) (w : World) :
    Calls Try.prog 61 #[.int .u64 x, .int .u64 y] w fun e w' => e = .returned (.tuple #[.int .u64 ((x * y / 18446744073709551616 : Nat) : Int), .int .u64 ((x * y % 18446744073709551616 : Nat) : Int)]) ∧ w' = w := Any.bits_Mul64 Try.lays264 x y hx hy w
end Go.Proofs
namespace Go.Proofs.Ytgaanndidcdbpaa
open Go.RowKit

set_option maxRecDepth 100000 in
set_option maxHeartbeats 2000000 in
theorem div_P (hi lo : Nat) (h1 : hi < 2305843009213691579) (h2 : lo < 18446744073709551616) (h0 : hi ≠ 0) (w : World) :
    Calls Try.prog 62 #[.int .u64 hi, .int .u64 lo, .int .u64 2305843009213691579] w fun e w' => e = .returned (.tuple #[.int .u64 (((hi * 18446744073709551616 + lo) / 2305843009213691579 : Nat) : Int), .int .u64 (((hi * 18446744073709551616 + lo) % 2305843009213691579 : Nat) : Int)]) ∧ w' = w := by
  obtain ⟨u, u1, u0, hu, hu1, hu0, he, e1, e2, e3⟩ := set_P hi lo h1 h2
  obtain ⟨q1, r1, E1, e4, e5⟩ := est0_P u u1 hu hu1
  obtain ⟨e6, hr⟩ := rest_P u u1
  obtain ⟨f1, f2⟩ := fin_P hi lo u u1 u0 h1 h2 hu0 he
  obtain ⟨Q1, hQ1⟩ : ∃ x, (u * 4294967296 + u1) / 18446744073709532632 = x := ⟨_, rfl⟩
  obtain ⟨R1, hR1⟩ : ∃ x, (u * 4294967296 + u1) % 18446744073709532632 = x := ⟨_, rfl⟩
  rw [hQ1, hR1] at e6 f1; rw [hR1] at f2 hr
  obtain ⟨q2, r2, E2, e7, e8⟩ := est0_P R1 u0 hr hu0
  obtain ⟨Q2, hQ2⟩ : ∃ x, (R1 * 4294967296 + u0) / 18446744073709532632 = x := ⟨_, rfl⟩
  rw [hQ2] at f1 f2
  obtain ⟨zq, hzq⟩ : ∃ x, (hi * 18446744073709551616 + lo) / 2305843009213691579 = x := ⟨_, rfl⟩
  obtain ⟨zr, hzr⟩ : ∃ x, (hi * 18446744073709551616 + lo) % 2305843009213691579 = x := ⟨_, rfl⟩
  rw [hzq] at f1; rw [hzr] at f2; rw [hzq, hzr]
  have b0 : ((hi : Int) == 0) = false := by simp [h0]
  have b1 : decide ((2305843009213691579 : Int) ≤ (hi : Int)) = false := by simp; omega
  have eY := y0_P
  have Hhu := Lib.hid hu
  have Hhu1 := Lib.hid hu1
  have Hhu0 := Lib.hid hu0
  have HE1 := Lib.hid E1
  have HE2 := Lib.hid E2
  have HhQ1 := Lib.hid hQ1
  have HhR1 := Lib.hid hR1
  have HhQ2 := Lib.hid hQ2
  have Hhr := Lib.hid hr
  clear hu hu1 hu0 he E1 E2 hQ1 hR1 hQ2 hzq hzr h0 h1 h2 hr
  go_enter Try.func62, Try.ntmps62
  go_upto_block 0 with (go_at_call 96; refine (lz_P _).mono ?_; rintro e w' ⟨rfl, rfl⟩)
  go_cut [15] (fun s wx => s = .int .u64 (Q1 : Int) ∧ w = wx)
  case first =>
    go_wp2_with fail
    go_loop [15, 16] (fun s t => ∃ q r : Nat, s = .int .u64 q ∧ t = .int .u64 r ∧ Hid (EstP u u1 q r)) (fun s _ => (intOf s).toNat)
    case atStart => exact ⟨q1, r1, rfl, rfl, HE1⟩
    case round =>
      obtain ⟨q, r, rfl, rfl, HE⟩ := hrel
      obtain ⟨m1, m2⟩ := estw_P HE.out Hhu1.out
      obtain ⟨a, ha⟩ : ∃ a, q * 4294948312 = a := ⟨_, rfl⟩
      obtain ⟨b, hb⟩ : ∃ b, r * 4294967296 + u1 = b := ⟨_, rfl⟩
      rw [ha] at m1; rw [hb] at m2
      by_cases hc : 4294967296 ≤ q ∨ b < a
      · obtain ⟨hq, d1, d2, hE2, hx⟩ := estx_P HE.out Hhu.out Hhu1.out (by rw [ha, hb]; exact hc)
        rw [HhQ1.out] at hx
        obtain ⟨r3, hr3⟩ : ∃ x, r + 4294967295 = x := ⟨_, rfl⟩
        rw [hr3] at d2 hE2 hx
        have HX := Lib.hid hx; have HE2 := Lib.hid hE2; have Hq := Lib.hid hq
        clear hx hE2 hq ha hb hr3
        by_cases c3 : r3 < 4294967296
        · have c3' : decide ((4294967296 : Int) ≤ (r3 : Int)) = false := by simp; omega
          have C3 := Lib.hid c3; clear c3
          by_cases c1 : 4294967296 ≤ q
          · have c1' : decide ((4294967296 : Int) ≤ (q : Int)) = true := by simp; omega
            clear hc c1
            go_wp2_with fail
            go_round
            case rel => exact ⟨q - 1, r3, rfl, rfl, Lib.hid (HE2.out C3.out)⟩
            case measure => have := Hq.out; simp [intOf]; omega
          · have c1' : decide ((4294967296 : Int) ≤ (q : Int)) = false := by simp; omega
            have c2 : decide (b < a) = true := by simp; omega
            clear hc c1
            go_wp2_with fail
            go_round
            case rel => exact ⟨q - 1, r3, rfl, rfl, Lib.hid (HE2.out C3.out)⟩
            case measure => have := Hq.out; simp [intOf]; omega
        · have c3' : decide ((4294967296 : Int) ≤ (r3 : Int)) = true := by simp; omega
          have C3 := Lib.hid c3; clear c3
          by_cases c1 : 4294967296 ≤ q
          · have c1' : decide ((4294967296 : Int) ≤ (q : Int)) = true := by simp; omega
            clear hc c1
            go_wp2_with fail
            go_meet
            case rel => exact ⟨by rw [HX.out (by have := C3.out; omega)], rfl⟩
          · have c1' : decide ((4294967296 : Int) ≤ (q : Int)) = false := by simp; omega
            have c2 : decide (b < a) = true := by simp; omega
            clear hc c1
            go_wp2_with fail
            go_meet
            case rel => exact ⟨by rw [HX.out (by have := C3.out; omega)], rfl⟩
      · have hx := este_P HE.out (by rw [ha, hb]; exact hc)
        rw [HhQ1.out] at hx
        have c1' : decide ((4294967296 : Int) ≤ (q : Int)) = false := by simp; omega
        have c2 : decide (b < a) = false := by simp; omega
        have HX := Lib.hid hx
        clear hc hx ha hb
        go_wp2_with fail
        go_meet
        case rel => exact ⟨by rw [HX.out], rfl⟩
  case rest =>
  obtain ⟨rfl, rfl⟩ := hcut
  go_upto_block 2 with fail
  go_cut [18] (fun s wx => s = .int .u64 (Q2 : Int) ∧ w = wx)
  case first =>
    go_wp2_with fail
    go_loop [18, 16] (fun s t => ∃ q r : Nat, s = .int .u64 q ∧ t = .int .u64 r ∧ Hid (EstP R1 u0 q r)) (fun s _ => (intOf s).toNat)
    case atStart => exact ⟨q2, r2, rfl, rfl, HE2⟩
    case round =>
      obtain ⟨q, r, rfl, rfl, HE⟩ := hrel
      obtain ⟨m1, m2⟩ := estw_P HE.out Hhu0.out
      obtain ⟨a, ha⟩ : ∃ a, q * 4294948312 = a := ⟨_, rfl⟩
      obtain ⟨b, hb⟩ : ∃ b, r * 4294967296 + u0 = b := ⟨_, rfl⟩
      rw [ha] at m1; rw [hb] at m2
      by_cases hc : 4294967296 ≤ q ∨ b < a
      · obtain ⟨hq, d1, d2, hE2, hx⟩ := estx_P HE.out Hhr.out Hhu0.out (by rw [ha, hb]; exact hc)
        rw [HhQ2.out] at hx
        obtain ⟨r3, hr3⟩ : ∃ x, r + 4294967295 = x := ⟨_, rfl⟩
        rw [hr3] at d2 hE2 hx
        have HX := Lib.hid hx; have HE2 := Lib.hid hE2; have Hq := Lib.hid hq
        clear hx hE2 hq ha hb hr3
        by_cases c3 : r3 < 4294967296
        · have c3' : decide ((4294967296 : Int) ≤ (r3 : Int)) = false := by simp; omega
          have C3 := Lib.hid c3; clear c3
          by_cases c1 : 4294967296 ≤ q
          · have c1' : decide ((4294967296 : Int) ≤ (q : Int)) = true := by simp; omega
            clear hc c1
            go_wp2_with fail
            go_round
            case rel => exact ⟨q - 1, r3, rfl, rfl, Lib.hid (HE2.out C3.out)⟩
            case measure => have := Hq.out; simp [intOf]; omega
          · have c1' : decide ((4294967296 : Int) ≤ (q : Int)) = false := by simp; omega
            have c2 : decide (b < a) = true := by simp; omega
            clear hc c1
            go_wp2_with fail
            go_round
            case rel => exact ⟨q - 1, r3, rfl, rfl, Lib.hid (HE2.out C3.out)⟩
            case measure => have := Hq.out; simp [intOf]; omega
        · have c3' : decide ((4294967296 : Int) ≤ (r3 : Int)) = true := by simp; omega
          have C3 := Lib.hid c3; clear c3
          by_cases c1 : 4294967296 ≤ q
          · have c1' : decide ((4294967296 : Int) ≤ (q : Int)) = true := by simp; omega
            clear hc c1
            go_wp2_with fail
            go_meet
            case rel => exact ⟨by rw [HX.out (by have := C3.out; omega)], rfl⟩
          · have c1' : decide ((4294967296 : Int) ≤ (q : Int)) = false := by simp; omega
            have c2 : decide (b < a) = true := by simp; omega
            clear hc c1
            go_wp2_with fail
            go_meet
            case rel => exact ⟨by rw [HX.out (by have := C3.out; omega)], rfl⟩
      · have hx := este_P HE.out (by rw [ha, hb]; exact hc)
        rw [HhQ2.out] at hx
        have c1' : decide ((4294967296 : Int) ≤ (q : Int)) = false := by simp; omega
        have c2 : decide (b < a) = false := by simp; omega
        have HX := Lib.hid hx
        clear hc hx ha hb
        go_wp2_with fail
        go_meet
        case rel => exact ⟨by rw [HX.out], rfl⟩
  case rest =>
  obtain ⟨rfl, rfl⟩ := hcut
  go_wp2_with fail
  go_ret2
  exact ⟨rfl, rfl⟩
set_option maxRecDepth 100000 in
theorem div0_P (lo : Nat) (h2 : lo < 18446744073709551616) (w : World) :
    Calls Try.prog 62 #[.int .u64 0, .int .u64 lo, .int .u64 2305843009213691579] w fun e w' => e = .returned (.tuple #[.int .u64 ((lo / 2305843009213691579 : Nat) : Int), .int .u64 ((lo % 2305843009213691579 : Nat) : Int)]) ∧ ∃ n, w' = w.drewN n := by
  have e1 : IntKind.u64.wrap ((lo : Int).tdiv 2305843009213691579) = ((lo / 2305843009213691579 : Nat) : Int) := by rw [IntWalk.u64_quo _ _ ⟨by omega, by omega, by omega⟩]; omega
  have e2 : Int.tmod (lo : Int) 2305843009213691579 = ((lo % 2305843009213691579 : Nat) : Int) := by rw [IntWalk.rem_in _ _ (by omega)]; omega
  have e3 : IntKind.u64.wrap ((lo : Int) / 2305843009213691579) = ((lo / 2305843009213691579 : Nat) : Int) := wn (by omega) (by omega)
  have H2 := Lib.hid h2; clear h2
  go_enter Try.func62, Try.ntmps62
  go_wp2_with fail
  go_quiet (fail)
  go_wp2_with fail
  go_ret2
  exact ⟨rfl, _, rfl⟩
set_option maxRecDepth 100000 in
set_option maxHeartbeats 2000000 in
theorem div_Q (hi lo : Nat) (h1 : hi < 1152921504606845789) (h2 : lo < 18446744073709551616) (h0 : hi ≠ 0) (w : World) :
    Calls Try.prog 62 #[.int .u64 hi, .int .u64 lo, .int .u64 1152921504606845789] w fun e w' => e = .returned (.tuple #[.int .u64 (((hi * 18446744073709551616 + lo) / 1152921504606845789 : Nat) : Int), .int .u64 (((hi * 18446744073709551616 + lo) % 1152921504606845789 : Nat) : Int)]) ∧ w' = w := by
  obtain ⟨u, u1, u0, hu, hu1, hu0, he, e1, e2, e3⟩ := set_Q hi lo h1 h2
  obtain ⟨q1, r1, E1, e4, e5⟩ := est0_Q u u1 hu hu1
  obtain ⟨e6, hr⟩ := rest_Q u u1
  obtain ⟨f1, f2⟩ := fin_Q hi lo u u1 u0 h1 h2 hu0 he
  obtain ⟨Q1, hQ1⟩ : ∃ x, (u * 4294967296 + u1) / 18446744073709532624 = x := ⟨_, rfl⟩
  obtain ⟨R1, hR1⟩ : ∃ x, (u * 4294967296 + u1) % 18446744073709532624 = x := ⟨_, rfl⟩
  rw [hQ1, hR1] at e6 f1; rw [hR1] at f2 hr
  obtain ⟨q2, r2, E2, e7, e8⟩ := est0_Q R1 u0 hr hu0
  obtain ⟨Q2, hQ2⟩ : ∃ x, (R1 * 4294967296 + u0) / 18446744073709532624 = x := ⟨_, rfl⟩
  rw [hQ2] at f1 f2
  obtain ⟨zq, hzq⟩ : ∃ x, (hi * 18446744073709551616 + lo) / 1152921504606845789 = x := ⟨_, rfl⟩
  obtain ⟨zr, hzr⟩ : ∃ x, (hi * 18446744073709551616 + lo) % 1152921504606845789 = x := ⟨_, rfl⟩
  rw [hzq] at f1; rw [hzr] at f2; rw [hzq, hzr]
  have b0 : ((hi : Int) == 0) = false := by simp [h0]
  have b1 : decide ((1152921504606845789 : Int) ≤ (hi : Int)) = false := by simp; omega
  have eY := y0_Q
  have Hhu := Lib.hid hu
  have Hhu1 := Lib.hid hu1
  have Hhu0 := Lib.hid hu0
  have HE1 := Lib.hid E1
  have HE2 := Lib.hid E2
  have HhQ1 := Lib.hid hQ1
  have HhR1 := Lib.hid hR1
  have HhQ2 := Lib.hid hQ2
  have Hhr := Lib.hid hr
  clear hu hu1 hu0 he E1 E2 hQ1 hR1 hQ2 hzq hzr h0 h1 h2 hr
  go_enter Try.func62, Try.ntmps62
  go_upto_block 0 with (go_at_call 96; refine (lz_Q _).mono ?_; rintro e w' ⟨rfl, rfl⟩)
  go_cut [15] (fun s wx => s = .int .u64 (Q1 : Int) ∧ w = wx)
  case first =>
    go_wp2_with fail
    go_loop [15, 16] (fun s t => ∃ q r : Nat, s = .int .u64 q ∧ t = .int .u64 r ∧ Hid (EstQ u u1 q r)) (fun s _ => (intOf s).toNat)
    case atStart => exact ⟨q1, r1, rfl, rfl, HE1⟩
    case round =>
      obtain ⟨q, r, rfl, rfl, HE⟩ := hrel
      obtain ⟨m1, m2⟩ := estw_Q HE.out Hhu1.out
      obtain ⟨a, ha⟩ : ∃ a, q * 4294948304 = a := ⟨_, rfl⟩
      obtain ⟨b, hb⟩ : ∃ b, r * 4294967296 + u1 = b := ⟨_, rfl⟩
      rw [ha] at m1; rw [hb] at m2
      by_cases hc : 4294967296 ≤ q ∨ b < a
      · obtain ⟨hq, d1, d2, hE2, hx⟩ := estx_Q HE.out Hhu.out Hhu1.out (by rw [ha, hb]; exact hc)
        rw [HhQ1.out] at hx
        obtain ⟨r3, hr3⟩ : ∃ x, r + 4294967295 = x := ⟨_, rfl⟩
        rw [hr3] at d2 hE2 hx
        have HX := Lib.hid hx; have HE2 := Lib.hid hE2; have Hq := Lib.hid hq
        clear hx hE2 hq ha hb hr3
        by_cases c3 : r3 < 4294967296
        · have c3' : decide ((4294967296 : Int) ≤ (r3 : Int)) = false := by simp; omega
          have C3 := Lib.hid c3; clear c3
          by_cases c1 : 4294967296 ≤ q
          · have c1' : decide ((4294967296 : Int) ≤ (q : Int)) = true := by simp; omega
            clear hc c1
            go_wp2_with fail
            go_round
            case rel => exact ⟨q - 1, r3, rfl, rfl, Lib.hid (HE2.out C3.out)⟩
            case measure => have := Hq.out; simp [intOf]; omega
          · have c1' : decide ((4294967296 : Int) ≤ (q : Int)) = false := by simp; omega
            have c2 : decide (b < a) = true := by simp; omega
            clear hc c1
            go_wp2_with fail
            go_round
            case rel => exact ⟨q - 1, r3, rfl, rfl, Lib.hid (HE2.out C3.out)⟩
            case measure => have := Hq.out; simp [intOf]; omega
        · have c3' : decide ((4294967296 : Int) ≤ (r3 : Int)) = true := by simp; omega
          have C3 := Lib.hid c3; clear c3
          by_cases c1 : 4294967296 ≤ q
          · have c1' : decide ((4294967296 : Int) ≤ (q : Int)) = true := by simp; omega
            clear hc c1
            go_wp2_with fail
            go_meet
            case rel => exact ⟨by rw [HX.out (by have := C3.out; omega)], rfl⟩
          · have c1' : decide ((4294967296 : Int) ≤ (q : Int)) = false := by simp; omega
            have c2 : decide (b < a) = true := by simp; omega
            clear hc c1
            go_wp2_with fail
            go_meet
            case rel => exact ⟨by rw [HX.out (by have := C3.out; omega)], rfl⟩
      · have hx := este_Q HE.out (by rw [ha, hb]; exact hc)
        rw [HhQ1.out] at hx
        have c1' : decide ((4294967296 : Int) ≤ (q : Int)) = false := by simp; omega
        have c2 : decide (b < a) = false := by simp; omega
        have HX := Lib.hid hx
        clear hc hx ha hb
        go_wp2_with fail
        go_meet
        case rel => exact ⟨by rw [HX.out], rfl⟩
  case rest =>
  obtain ⟨rfl, rfl⟩ := hcut
  go_upto_block 2 with fail
  go_cut [18] (fun s wx => s = .int .u64 (Q2 : Int) ∧ w = wx)
  case first =>
    go_wp2_with fail
    go_loop [18, 16] (fun s t => ∃ q r : Nat, s = .int .u64 q ∧ t = .int .u64 r ∧ Hid (EstQ R1 u0 q r)) (fun s _ => (intOf s).toNat)
    case atStart => exact ⟨q2, r2, rfl, rfl, HE2⟩
    case round =>
      obtain ⟨q, r, rfl, rfl, HE⟩ := hrel
      obtain ⟨m1, m2⟩ := estw_Q HE.out Hhu0.out
      obtain ⟨a, ha⟩ : ∃ a, q * 4294948304 = a := ⟨_, rfl⟩
      obtain ⟨b, hb⟩ : ∃ b, r * 4294967296 + u0 = b := ⟨_, rfl⟩
      rw [ha] at m1; rw [hb] at m2
      by_cases hc : 4294967296 ≤ q ∨ b < a
      · obtain ⟨hq, d1, d2, hE2, hx⟩ := estx_Q HE.out Hhr.out Hhu0.out (by rw [ha, hb]; exact hc)
        rw [HhQ2.out] at hx
        obtain ⟨r3, hr3⟩ : ∃ x, r + 4294967295 = x := ⟨_, rfl⟩
        rw [hr3] at d2 hE2 hx
        have HX := Lib.hid hx; have HE2 := Lib.hid hE2; have Hq := Lib.hid hq
        clear hx hE2 hq ha hb hr3
        by_cases c3 : r3 < 4294967296
        · have c3' : decide ((4294967296 : Int) ≤ (r3 : Int)) = false := by simp; omega
          have C3 := Lib.hid c3; clear c3
          by_cases c1 : 4294967296 ≤ q
          · have c1' : decide ((4294967296 : Int) ≤ (q : Int)) = true := by simp; omega
            clear hc c1
            go_wp2_with fail
            go_round
            case rel => exact ⟨q - 1, r3, rfl, rfl, Lib.hid (HE2.out C3.out)⟩
            case measure => have := Hq.out; simp [intOf]; omega
          · have c1' : decide ((4294967296 : Int) ≤ (q : Int)) = false := by simp; omega
            have c2 : decide (b < a) = true := by simp; omega
            clear hc c1
            go_wp2_with fail
            go_round
            case rel => exact ⟨q - 1, r3, rfl, rfl, Lib.hid (HE2.out C3.out)⟩
            case measure => have := Hq.out; simp [intOf]; omega
        · have c3' : decide ((4294967296 : Int) ≤ (r3 : Int)) = true := by simp; omega
          have C3 := Lib.hid c3; clear c3
          by_cases c1 : 4294967296 ≤ q
          · have c1' : decide ((4294967296 : Int) ≤ (q : Int)) = true := by simp; omega
            clear hc c1
            go_wp2_with fail
            go_meet
            case rel => exact ⟨by rw [HX.out (by have := C3.out; omega)], rfl⟩
          · have c1' : decide ((4294967296 : Int) ≤ (q : Int)) = false := by simp; omega
            have c2 : decide (b < a) = true := by simp; omega
            clear hc c1
            go_wp2_with fail
            go_meet
            case rel => exact ⟨by rw [HX.out (by have := C3.out; omega)], rfl⟩
      · have hx := este_Q HE.out (by rw [ha, hb]; exact hc)
        rw [HhQ2.out] at hx
        have c1' : decide ((4294967296 : Int) ≤ (q : Int)) = false := by simp; omega
        have c2 : decide (b < a) = false := by simp; omega
        have HX := Lib.hid hx
        clear hc hx ha hb
        go_wp2_with fail
        go_meet
        case rel => exact ⟨by rw [HX.out], rfl⟩
  case rest =>
  obtain ⟨rfl, rfl⟩ := hcut
  go_wp2_with fail
  go_ret2
  exact ⟨rfl, rfl⟩
set_option maxRecDepth 100000 in
theorem div0_Q (lo : Nat) (h2 : lo < 18446744073709551616) (w : World) :
    Calls Try.prog 62 #[.int .u64 0, .int .u64 lo, .int .u64 1152921504606845789] w fun e w' => e = .returned (.tuple #[.int .u64 ((lo / 1152921504606845789 : Nat) : Int), .int .u64 ((lo % 1152921504606845789 : Nat) : Int)]) ∧ ∃ n, w' = w.drewN n := by
  have e1 : IntKind.u64.wrap ((lo : Int).tdiv 1152921504606845789) = ((lo / 1152921504606845789 : Nat) : Int) := by rw [IntWalk.u64_quo _ _ ⟨by omega, by omega, by omega⟩]; omega
  have e2 : Int.tmod (lo : Int) 1152921504606845789 = ((lo % 1152921504606845789 : Nat) : Int) := by rw [IntWalk.rem_in _ _ (by omega)]; omega
  have e3 : IntKind.u64.wrap ((lo : Int) / 1152921504606845789) = ((lo / 1152921504606845789 : Nat) : Int) := wn (by omega) (by omega)
  have H2 := Lib.hid h2; clear h2
  go_enter Try.func62, Try.ntmps62
  go_wp2_with fail
  go_quiet (fail)
  go_wp2_with fail
  go_ret2
  exact ⟨rfl, _, rfl⟩
end Go.Proofs.Ytgaanndidcdbpaa
namespace Go.Proofs.Ytgaanndidcdbpaa
open Go.RowKit

theorem divm_P (z : Nat) (h : z < 2305843009213691579 * 18446744073709551616) (w : World) :
    Calls Try.prog 62 #[.int .u64 ((z / 18446744073709551616 : Nat) : Int), .int .u64 ((z % 18446744073709551616 : Nat) : Int), .int .u64 2305843009213691579] w fun e w' => e = .returned (.tuple #[.int .u64 ((z / 2305843009213691579 : Nat) : Int), .int .u64 ((z % 2305843009213691579 : Nat) : Int)]) ∧ ∃ n, w' = w.drewN n := by
  have hd : z / 18446744073709551616 * 18446744073709551616 + z % 18446744073709551616 = z := by have := Nat.div_add_mod z 18446744073709551616; rw [Nat.mul_comm] at this; exact this
  have hm := Nat.mod_lt z (show 0 < 18446744073709551616 by decide)
  have hh : z / 18446744073709551616 < 2305843009213691579 := Nat.div_lt_of_lt_mul (by rw [Nat.mul_comm]; exact h)
  by_cases h0 : z / 18446744073709551616 = 0
  · rw [h0, Nat.zero_mul, Nat.zero_add] at hd
    rw [h0, hd]
    exact div0_P z (by rw [← hd]; exact hm) w
  · have C := div_P _ _ hh hm h0 w
    rw [hd] at C
    exact C.mono fun e w' ⟨he, hw⟩ => ⟨he, 0, hw⟩
set_option maxRecDepth 100000 in
theorem mul_P (a b : Nat) (ha : a < 2305843009213691579) (hb : b < 2305843009213691579) (w : World) : Calls Try.prog 40 #[.int .u64 2305843009213691579, .int .u64 a, .int .u64 b] w fun e w' => e = .returned (.int .u64 ((a * b % 2305843009213691579 : Nat) : Int)) ∧ ∃ n, w' = w.drewN n := by
  have C1 := Lib.hid (Try.bits_Mul64 a b (Nat.lt_trans ha (by decide)) (Nat.lt_trans hb (by decide)) w)
  have hz : a * b < 2305843009213691579 * 18446744073709551616 := Nat.lt_of_le_of_lt (Nat.mul_le_mul_right b (Nat.le_of_lt ha)) (Nat.mul_lt_mul_of_pos_left (Nat.lt_trans hb (by decide)) (by decide))
  have C2 := Lib.hid (divm_P (a * b) hz w)
  obtain ⟨z, hz'⟩ : ∃ z, a * b = z := ⟨_, rfl⟩
  rw [hz'] at C1 C2 ⊢
  obtain ⟨zh, e1⟩ : ∃ x, z / 18446744073709551616 = x := ⟨_, rfl⟩
  obtain ⟨zl, e2⟩ : ∃ x, z % 18446744073709551616 = x := ⟨_, rfl⟩
  obtain ⟨zq, e3⟩ : ∃ x, z / 2305843009213691579 = x := ⟨_, rfl⟩
  obtain ⟨zr, e4⟩ : ∃ x, z % 2305843009213691579 = x := ⟨_, rfl⟩
  rw [e1, e2] at C1; rw [e1, e2, e3, e4] at C2; rw [e4]
  clear ha hb hz hz' e1 e2 e3 e4
  go_enter Try.func40, Try.ntmps40
  go_wp2_with fail
  refine C1.out.mono ?_
  rintro e w' ⟨rfl, rfl⟩
  go_wp2_with fail
  refine C2.out.mono ?_
  rintro e w2 ⟨rfl, n, rfl⟩
  go_wp2_with fail
  go_ret
  exact ⟨rfl, n, rfl⟩
set_option maxRecDepth 100000 in
theorem add_P (a b : Nat) (h : a + b < 18446744073709551616) (w : World) : Calls Try.prog 39 #[.int .u64 2305843009213691579, .int .u64 a, .int .u64 b] w fun e w' => e = .returned (.int .u64 (((a + b) % 2305843009213691579 : Nat) : Int)) ∧ ∃ n, w' = w.drewN n := by
  have e1 : IntKind.u64.wrap ((a : Int) + (b : Int)) = ((a + b : Nat) : Int) := wn (by omega) h
  obtain ⟨z, hz⟩ : ∃ z, a + b = z := ⟨_, rfl⟩
  rw [hz] at e1 ⊢
  have e2 : Int.tmod (z : Int) 2305843009213691579 = ((z % 2305843009213691579 : Nat) : Int) := by rw [IntWalk.rem_in _ _ (by omega)]; omega
  obtain ⟨zr, e4⟩ : ∃ x, z % 2305843009213691579 = x := ⟨_, rfl⟩
  rw [e4] at e2 ⊢
  have e3 : (z : Int) % 2305843009213691579 = (zr : Int) := by omega
  clear h hz e4
  go_enter Try.func39, Try.ntmps39
  go_wp2_with fail
  go_ret
  exact ⟨rfl, 0, rfl⟩

theorem divm_Q (z : Nat) (h : z < 1152921504606845789 * 18446744073709551616) (w : World) :
    Calls Try.prog 62 #[.int .u64 ((z / 18446744073709551616 : Nat) : Int), .int .u64 ((z % 18446744073709551616 : Nat) : Int), .int .u64 1152921504606845789] w fun e w' => e = .returned (.tuple #[.int .u64 ((z / 1152921504606845789 : Nat) : Int), .int .u64 ((z % 1152921504606845789 : Nat) : Int)]) ∧ ∃ n, w' = w.drewN n := by
  have hd : z / 18446744073709551616 * 18446744073709551616 + z % 18446744073709551616 = z := by have := Nat.div_add_mod z 18446744073709551616; rw [Nat.mul_comm] at this; exact this
  have hm := Nat.mod_lt z (show 0 < 18446744073709551616 by decide)
  have hh : z / 18446744073709551616 < 1152921504606845789 := Nat.div_lt_of_lt_mul (by rw [Nat.mul_comm]; exact h)
  by_cases h0 : z / 18446744073709551616 = 0
  · rw [h0, Nat.zero_mul, Nat.zero_add] at hd
    rw [h0, hd]
    exact div0_Q z (by rw [← hd]; exact hm) w
  · have C := div_Q _ _ hh hm h0 w
    rw [hd] at C
    exact C.mono fun e w' ⟨he, hw⟩ => ⟨he, 0, hw⟩
set_option maxRecDepth 100000 in
theorem mul_Q (a b : Nat) (ha : a < 1152921504606845789) (hb : b < 1152921504606845789) (w : World) : Calls Try.prog 40 #[.int .u64 1152921504606845789, .int .u64 a, .int .u64 b] w fun e w' => e = .returned (.int .u64 ((a * b % 1152921504606845789 : Nat) : Int)) ∧ ∃ n, w' = w.drewN n := by
  have C1 := Lib.hid (Try.bits_Mul64 a b (Nat.lt_trans ha (by decide)) (Nat.lt_trans hb (by decide)) w)
  have hz : a * b < 1152921504606845789 * 18446744073709551616 := Nat.lt_of_le_of_lt (Nat.mul_le_mul_right b (Nat.le_of_lt ha)) (Nat.mul_lt_mul_of_pos_left (Nat.lt_trans hb (by decide)) (by decide))
  have C2 := Lib.hid (divm_Q (a * b) hz w)
  obtain ⟨z, hz'⟩ : ∃ z, a * b = z := ⟨_, rfl⟩
  rw [hz'] at C1 C2 ⊢
  obtain ⟨zh, e1⟩ : ∃ x, z / 18446744073709551616 = x := ⟨_, rfl⟩
  obtain ⟨zl, e2⟩ : ∃ x, z % 18446744073709551616 = x := ⟨_, rfl⟩
  obtain ⟨zq, e3⟩ : ∃ x, z / 1152921504606845789 = x := ⟨_, rfl⟩
  obtain ⟨zr, e4⟩ : ∃ x, z % 1152921504606845789 = x := ⟨_, rfl⟩
  rw [e1, e2] at C1; rw [e1, e2, e3, e4] at C2; rw [e4]
  clear ha hb hz hz' e1 e2 e3 e4
  go_enter Try.func40, Try.ntmps40
  go_wp2_with fail
  refine C1.out.mono ?_
  rintro e w' ⟨rfl, rfl⟩
  go_wp2_with fail
  refine C2.out.mono ?_
  rintro e w2 ⟨rfl, n, rfl⟩
  go_wp2_with fail
  go_ret
  exact ⟨rfl, n, rfl⟩
set_option maxRecDepth 100000 in
theorem add_Q (a b : Nat) (h : a + b < 18446744073709551616) (w : World) : Calls Try.prog 39 #[.int .u64 1152921504606845789, .int .u64 a, .int .u64 b] w fun e w' => e = .returned (.int .u64 (((a + b) % 1152921504606845789 : Nat) : Int)) ∧ ∃ n, w' = w.drewN n := by
  have e1 : IntKind.u64.wrap ((a : Int) + (b : Int)) = ((a + b : Nat) : Int) := wn (by omega) h
  obtain ⟨z, hz⟩ : ∃ z, a + b = z := ⟨_, rfl⟩
  rw [hz] at e1 ⊢
  have e2 : Int.tmod (z : Int) 1152921504606845789 = ((z % 1152921504606845789 : Nat) : Int) := by rw [IntWalk.rem_in _ _ (by omega)]; omega
  obtain ⟨zr, e4⟩ : ∃ x, z % 1152921504606845789 = x := ⟨_, rfl⟩
  rw [e4] at e2 ⊢
  have e3 : (z : Int) % 1152921504606845789 = (zr : Int) := by omega
  clear h hz e4
  go_enter Try.func39, Try.ntmps39
  go_wp2_with fail
  go_ret
  exact ⟨rfl, 0, rfl⟩

end Go.Proofs.Ytgaanndidcdbpaa
namespace Go.Proofs.Ytgaanndidcdbpaa
open Go.RowKit

def Drn (w w' : World) : Prop := ∃ n, w' = w.drewN n
theorem Drn.refl (w : World) : Drn w w := ⟨0, rfl⟩
theorem Drn.drewN {w w' : World} (h : Drn w w') (n : Nat) : Drn w (w'.drewN n) := by obtain ⟨m, rfl⟩ := h; exact ⟨m + n, by rw [World.drewN_drewN]⟩
theorem sqm_step {m f x a k : Nat} (hk : k ≠ 0) (h : k < 2 ^ f) : ∃ g, f = g + 1 ∧ k / 2 < 2 ^ g ∧ sqm m f x a k = sqm m g (if k % 2 = 1 then x * a % m else x) (a * a % m) (k / 2) := by
  cases f with
  | zero => omega
  | succ g => exact ⟨g, rfl, by rw [Nat.pow_succ] at h; omega, by rw [sqm, if_neg hk]⟩
/-- the state of the loop of pow -/
structure PstP (S f x a k : Nat) (w wr : World) : Prop where
  val : sqm 2305843009213691579 f x a k = S
  lt : k < 2 ^ f
  k64 : k < 18446744073709551616
  a_lt : a < 2305843009213691579
  x_lt : x < 2305843009213691579
  drn : Drn w wr
set_option maxRecDepth 100000 in
theorem pow_P (a0 k0 : Nat) (ha : a0 < 2305843009213691579) (hk : k0 < 18446744073709551616) (w : World) : Calls Try.prog 88 #[.int .u64 2305843009213691579, .int .u64 a0, .int .u64 k0] w fun e w' => e = .returned (.int .u64 ((sqm 2305843009213691579 64 1 a0 k0 : Nat) : Int)) ∧ ∃ n, w' = w.drewN n := by
  obtain ⟨S, hS⟩ : ∃ S, sqm 2305843009213691579 64 1 a0 k0 = S := ⟨_, rfl⟩
  rw [hS]
  have H0 : Hid (PstP S 64 1 a0 k0 w w) := ⟨hS, hk, hk, ha, by decide, Drn.refl _⟩
  clear hS ha hk
  go_enter Try.func88, Try.ntmps88
  go_wp2_with fail
  go_loopw [1, 2, 7] (fun sa sk sx wr => ∃ f x a k : Nat, sa = .int .u64 a ∧ sk = .int .u64 k ∧ sx = .int .u64 x ∧ Hid (PstP S f x a k w wr)) (fun _ sk _ _ => (intOf sk).toNat)
  case atStart => exact ⟨64, 1, a0, k0, rfl, rfl, rfl, H0⟩
  case round =>
    obtain ⟨f, x, a, k, rfl, rfl, rfl, HR⟩ := hrel
    by_cases hk0 : k = 0
    · subst hk0
      go_wp2_with fail
      go_ret
      have h := HR.out.val
      have h2 : x = S := by cases f <;> simpa [sqm] using h
      exact ⟨by rw [h2]; rfl, HR.out.drn⟩
    · obtain ⟨g, hf, hlt, hst⟩ := sqm_step (m := 2305843009213691579) (x := x) (a := a) hk0 HR.out.lt
      have hv := hst.symm.trans HR.out.val
      obtain ⟨y, hy⟩ : ∃ y, x * a % 2305843009213691579 = y := ⟨_, rfl⟩
      obtain ⟨b, hb⟩ : ∃ b, a * a % 2305843009213691579 = b := ⟨_, rfl⟩
      have hyl : y < 2305843009213691579 := by rw [← hy]; exact Nat.mod_lt _ (by decide)
      have hbl : b < 2305843009213691579 := by rw [← hb]; exact Nat.mod_lt _ (by decide)
      have C1 := fun W => Lib.hid (mul_P x a HR.out.x_lt HR.out.a_lt W)
      have C2 := fun W => Lib.hid (mul_P a a HR.out.a_lt HR.out.a_lt W)
      rw [hy] at C1 hv
      rw [hb] at C2 hv
      have hand := and_one k HR.out.k64
      have hp : (0 : Int) < (k : Int) := by omega
      have hk2 : k / 2 < 18446744073709551616 := Nat.lt_of_le_of_lt (Nat.div_le_self _ _) HR.out.k64
      have HK0 := Lib.hid hk0
      by_cases ho : k % 2 = 1
      · rw [ho] at hand
        rw [if_pos ho] at hv
        have HP : ∀ n, Hid (PstP S g y b (k / 2) w (wr.drewN n)) := fun n => ⟨hv, hlt, hk2, hbl, hyl, HR.out.drn.drewN n⟩
        clear hv hst hlt hyl hbl hy hb hk2 ho hf hk0
        go_wp2_with fail
        refine (C1 _).out.mono ?_
        rintro e w1 ⟨rfl, n, rfl⟩
        go_wp2_with fail
        refine (C2 _).out.mono ?_
        rintro e w2 ⟨rfl, m, rfl⟩
        go_wp2_with fail
        go_roundw
        case rel => exact ⟨g, y, b, k / 2, rfl, by go_num, rfl, HP (n + m)⟩
        case measure => have := HK0.out; simp [intOf]; omega
      · have ho' : k % 2 = 0 := by omega
        rw [ho'] at hand
        rw [if_neg ho] at hv
        have HP : ∀ n, Hid (PstP S g x b (k / 2) w (wr.drewN n)) := fun n => ⟨hv, hlt, hk2, hbl, HR.out.x_lt, HR.out.drn.drewN n⟩
        clear hv hst hlt hyl hbl hy hb hk2 ho ho' hf hk0
        go_wp2_with fail
        refine (C2 _).out.mono ?_
        rintro e w2 ⟨rfl, m, rfl⟩
        go_wp2_with fail
        go_roundw
        case rel => exact ⟨g, x, b, k / 2, rfl, by go_num, rfl, HP m⟩
        case measure => have := HK0.out; simp [intOf]; omega

/-- the state of the loop of pow -/
structure PstQ (S f x a k : Nat) (w wr : World) : Prop where
  val : sqm 1152921504606845789 f x a k = S
  lt : k < 2 ^ f
  k64 : k < 18446744073709551616
  a_lt : a < 1152921504606845789
  x_lt : x < 1152921504606845789
  drn : Drn w wr
set_option maxRecDepth 100000 in
theorem pow_Q (a0 k0 : Nat) (ha : a0 < 1152921504606845789) (hk : k0 < 18446744073709551616) (w : World) : Calls Try.prog 88 #[.int .u64 1152921504606845789, .int .u64 a0, .int .u64 k0] w fun e w' => e = .returned (.int .u64 ((sqm 1152921504606845789 64 1 a0 k0 : Nat) : Int)) ∧ ∃ n, w' = w.drewN n := by
  obtain ⟨S, hS⟩ : ∃ S, sqm 1152921504606845789 64 1 a0 k0 = S := ⟨_, rfl⟩
  rw [hS]
  have H0 : Hid (PstQ S 64 1 a0 k0 w w) := ⟨hS, hk, hk, ha, by decide, Drn.refl _⟩
  clear hS ha hk
  go_enter Try.func88, Try.ntmps88
  go_wp2_with fail
  go_loopw [1, 2, 7] (fun sa sk sx wr => ∃ f x a k : Nat, sa = .int .u64 a ∧ sk = .int .u64 k ∧ sx = .int .u64 x ∧ Hid (PstQ S f x a k w wr)) (fun _ sk _ _ => (intOf sk).toNat)
  case atStart => exact ⟨64, 1, a0, k0, rfl, rfl, rfl, H0⟩
  case round =>
    obtain ⟨f, x, a, k, rfl, rfl, rfl, HR⟩ := hrel
    by_cases hk0 : k = 0
    · subst hk0
      go_wp2_with fail
      go_ret
      have h := HR.out.val
      have h2 : x = S := by cases f <;> simpa [sqm] using h
      exact ⟨by rw [h2]; rfl, HR.out.drn⟩
    · obtain ⟨g, hf, hlt, hst⟩ := sqm_step (m := 1152921504606845789) (x := x) (a := a) hk0 HR.out.lt
      have hv := hst.symm.trans HR.out.val
      obtain ⟨y, hy⟩ : ∃ y, x * a % 1152921504606845789 = y := ⟨_, rfl⟩
      obtain ⟨b, hb⟩ : ∃ b, a * a % 1152921504606845789 = b := ⟨_, rfl⟩
      have hyl : y < 1152921504606845789 := by rw [← hy]; exact Nat.mod_lt _ (by decide)
      have hbl : b < 1152921504606845789 := by rw [← hb]; exact Nat.mod_lt _ (by decide)
      have C1 := fun W => Lib.hid (mul_Q x a HR.out.x_lt HR.out.a_lt W)
      have C2 := fun W => Lib.hid (mul_Q a a HR.out.a_lt HR.out.a_lt W)
      rw [hy] at C1 hv
      rw [hb] at C2 hv
      have hand := and_one k HR.out.k64
      have hp : (0 : Int) < (k : Int) := by omega
      have hk2 : k / 2 < 18446744073709551616 := Nat.lt_of_le_of_lt (Nat.div_le_self _ _) HR.out.k64
      have HK0 := Lib.hid hk0
      by_cases ho : k % 2 = 1
      · rw [ho] at hand
        rw [if_pos ho] at hv
        have HP : ∀ n, Hid (PstQ S g y b (k / 2) w (wr.drewN n)) := fun n => ⟨hv, hlt, hk2, hbl, hyl, HR.out.drn.drewN n⟩
        clear hv hst hlt hyl hbl hy hb hk2 ho hf hk0
        go_wp2_with fail
        refine (C1 _).out.mono ?_
        rintro e w1 ⟨rfl, n, rfl⟩
        go_wp2_with fail
        refine (C2 _).out.mono ?_
        rintro e w2 ⟨rfl, m, rfl⟩
        go_wp2_with fail
        go_roundw
        case rel => exact ⟨g, y, b, k / 2, rfl, by go_num, rfl, HP (n + m)⟩
        case measure => have := HK0.out; simp [intOf]; omega
      · have ho' : k % 2 = 0 := by omega
        rw [ho'] at hand
        rw [if_neg ho] at hv
        have HP : ∀ n, Hid (PstQ S g x b (k / 2) w (wr.drewN n)) := fun n => ⟨hv, hlt, hk2, hbl, HR.out.x_lt, HR.out.drn.drewN n⟩
        clear hv hst hlt hyl hbl hy hb hk2 ho ho' hf hk0
        go_wp2_with fail
        refine (C2 _).out.mono ?_
        rintro e w2 ⟨rfl, m, rfl⟩
        go_wp2_with fail
        go_roundw
        case rel => exact ⟨g, x, b, k / 2, rfl, by go_num, rfl, HP m⟩
        case measure => have := HK0.out; simp [intOf]; omega

set_option maxRecDepth 100000 in
theorem Pow_any (a k : Nat) (hk : k < 18446744073709551616) (w : World) : Calls Try.prog 52 #[.int .u64 a, .int .u64 k] w fun e w' => e = .returned (.int .u64 ((pw a k : Nat) : Int)) ∧ ∃ n, w' = w.drewN n := by
  have C := Lib.hid (pow_P (a % 2305843009213691579) k (Nat.mod_lt _ (by decide)) hk w)
  have e1 : Int.tmod (a : Int) 2305843009213691579 = ((a % 2305843009213691579 : Nat) : Int) := by rw [IntWalk.rem_in _ _ (by omega)]; omega
  have e2 : (a : Int) % 2305843009213691579 = ((a % 2305843009213691579 : Nat) : Int) := by omega
  rw [show sqm 2305843009213691579 64 1 (a % 2305843009213691579) k = pw a k from rfl] at C
  obtain ⟨z, hz⟩ : ∃ z, pw a k = z := ⟨_, rfl⟩
  rw [hz] at C ⊢
  obtain ⟨b, hb⟩ : ∃ b, a % 2305843009213691579 = b := ⟨_, rfl⟩
  rw [hb] at C e1 e2
  clear hz hb hk
  go_enter Try.func52, Try.ntmps52
  go_wp2_with fail
  refine C.out.mono ?_
  rintro e w' ⟨rfl, n, rfl⟩
  go_wp2_with fail
  go_ret
  exact ⟨rfl, n, rfl⟩
set_option maxRecDepth 100000 in
theorem inv_any (a : Nat) (ha : a < 1152921504606845789) (w : World) : Calls Try.prog 105 #[.int .u64 1152921504606845789, .int .u64 a] w fun e w' => e = .returned (.int .u64 ((invQ a : Nat) : Int)) ∧ ∃ n, w' = w.drewN n := by
  have C := Lib.hid (pow_Q a (1152921504606845789 - 2) ha (by decide) w)
  rw [show sqm 1152921504606845789 64 1 a (1152921504606845789 - 2) = invQ a from rfl, show (((1152921504606845789 - 2 : Nat) : Nat) : Int) = 1152921504606845787 from rfl] at C
  obtain ⟨z, hz⟩ : ∃ z, invQ a = z := ⟨_, rfl⟩
  rw [hz] at C ⊢
  clear hz ha
  go_enter Try.func105, Try.ntmps105
  go_wp2_with fail
  refine C.out.mono ?_
  rintro e w' ⟨rfl, n, rfl⟩
  go_wp2_with fail
  go_ret
  exact ⟨rfl, n, rfl⟩
end Go.Proofs.Ytgaanndidcdbpaa
namespace Go.Proofs.Ytgaanndidcdbpaa
open Go.RowKit

/- the arithmetic of the reference, at a modulus m -/
/-- the state of the loop of times -/
structure Tst (S m x a b : Nat) : Prop where
  val : (x + a * b) % m = S
  a_lt : a < m
  x_lt : x < m
  b_lt : b < 18446744073709551616
theorem half64 {b : Nat} (h : b < 18446744073709551616) : b / 2 < 18446744073709551616 := Nat.lt_of_le_of_lt (Nat.div_le_self _ _) h
theorem Tst.even {S m x a b : Nat} (h : Tst S m x a b) (hb : b % 2 = 0) : Tst S m x ((a + a) % m) (b / 2) := by
  refine ⟨?_, Nat.mod_lt _ (Nat.lt_of_le_of_lt (Nat.zero_le _) h.x_lt), h.x_lt, half64 h.b_lt⟩
  rw [← h.val, Nat.add_mod, Nat.mod_mul_mod, ← Nat.add_mod]
  congr 2
  rw [← Nat.mul_two, Nat.mul_assoc, show 2 * (b / 2) = b by omega]
theorem Tst.odd {S m x a b : Nat} (h : Tst S m x a b) (hb : b % 2 = 1) : Tst S m ((x + a) % m) ((a + a) % m) (b / 2) := by
  have hm := Nat.lt_of_le_of_lt (Nat.zero_le _) h.x_lt
  refine ⟨?_, Nat.mod_lt _ hm, Nat.mod_lt _ hm, half64 h.b_lt⟩
  rw [← h.val, Nat.mod_add_mod, Nat.add_mod, Nat.mod_mul_mod, ← Nat.add_mod]
  congr 1
  have : a * b = a + (a + a) * (b / 2) := by
    rw [← Nat.mul_two, Nat.mul_assoc]
    conv => lhs; rw [show b = 1 + 2 * (b / 2) by omega, Nat.mul_add, Nat.mul_one]
  rw [this]
  omega
/-- the state of the loop of power -/
structure Rst (S m f x a k : Nat) : Prop where
  val : sqm m f x a k = S
  lt : k < 2 ^ f
  k64 : k < 18446744073709551616
  a_lt : a < m
  x_lt : x < m
end Go.Proofs.Ytgaanndidcdbpaa
