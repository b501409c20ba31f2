import Derived.Test.YtpcodholllaceaaGen
import Derived.IntWalk
import Derived.Laws.BitsLemmas
import Derived.Laws.Bits64b
namespace Go.Proofs.Ytpcodholllaceaa

/- the estimate of a digit, Knuth's algorithm D -/
section
variable {B Y y1 y0 u u1 q r : Nat}
theorem knuL (hY : Y = y1 * B + y0) (h1 : q * y1 + r = u) (hu : u < Y) (hu1 : u1 < B) (hc : B ≤ q ∨ r * B + u1 < q * y0) : u * B + u1 < q * Y := by
  rcases hc with hc | hc
  · have h2 : (u + 1) * B ≤ Y * B := Nat.mul_le_mul_right _ hu
    have h3 : B * Y ≤ q * Y := Nat.mul_le_mul_right _ hc
    rw [Nat.mul_comm B Y] at h3
    rw [Nat.add_mul, Nat.one_mul] at h2
    omega
  · subst h1 hY
    have e : q * (y1 * B + y0) = q * y1 * B + q * y0 := by rw [Nat.mul_add, Nat.mul_assoc]
    rw [e, Nat.add_mul]
    omega
theorem knuQ (hY : Y = y1 * B + y0) (hy0 : y0 ≤ B) (h1 : (q + 1) * y1 + r = u) (h4 : q ≤ B) (hr : B ≤ r + y1) : q * Y ≤ u * B + u1 := by
  subst h1 hY
  have e : q * (y1 * B + y0) = q * y1 * B + q * y0 := by rw [Nat.mul_add, Nat.mul_assoc]
  have e2 : ((q + 1) * y1 + r) * B = q * y1 * B + (r + y1) * B := by grind
  have h5 : q * y0 ≤ B * B := Nat.mul_le_mul h4 hy0
  have h6 : B * B ≤ (r + y1) * B := Nat.mul_le_mul_right _ hr
  rw [e, e2]
  omega
theorem knuS (h1 : (q + 1) * y1 + r = u) : q * y1 + (r + y1) = u := by subst h1; grind
theorem knuE (hY : Y = y1 * B + y0) (h1 : q * y1 + r = u) (h2 : q * y0 ≤ r * B + u1) : q * Y ≤ u * B + u1 := by
  subst h1 hY
  have e : q * (y1 * B + y0) = q * y1 * B + q * y0 := by rw [Nat.mul_add, Nat.mul_assoc]
  rw [e, Nat.add_mul]
  omega
/-- the two digits and the remainder -/
theorem knuF {p k z u0 q0 r0 qq rr : Nat} (hk : Y = p * k) (hk0 : 0 < k) (he : (u * B + u1) * B + u0 = z * k) (hd : Y * q + r = u * B + u1) (hd2 : Y * q0 + r0 = r * B + u0) (hm2 : r0 < Y) (hd3 : p * qq + rr = z) (hm3 : rr < p) :
    qq = q * B + q0 ∧ r0 = rr * k := by
  have e : Y * qq + rr * k = Y * (q * B + q0) + r0 := by
    subst hd3 hk
    have : (p * qq + rr) * k = (u * B + u1) * B + u0 := he.symm
    rw [← hd, show (p * k * q + r) * B = p * k * q * B + r * B from Nat.add_mul _ _ _, Nat.add_assoc] at this
    have e2 : p * k * (q * B + q0) + r0 = p * k * q * B + (p * k * q0 + r0) := by grind
    rw [e2, hd2]
    have e3 : p * k * qq + rr * k = (p * qq + rr) * k := by grind
    rw [e3, this]
  have hr : rr * k < Y := by rw [hk]; exact Nat.mul_lt_mul_of_pos_right hm3 hk0
  generalize q * B + q0 = n at e ⊢
  rcases Nat.lt_trichotomy qq n with h | h | h
  · exfalso
    have : Y * (qq + 1) ≤ Y * n := Nat.mul_le_mul_left _ h
    rw [Nat.mul_add] at this
    omega
  · subst h; exact ⟨rfl, by omega⟩
  · exfalso
    have : Y * (n + 1) ≤ Y * qq := Nat.mul_le_mul_left _ h
    rw [Nat.mul_add] at this
    omega
end
/- numbers of 64 bits without a sign -/
theorem w64 (n : Int) (h0 : 0 ≤ n) (h1 : n < 2 ^ 64) : IntKind.u64.wrap n = n := by rw [IntKind.wrap_u64]; exact Int.emod_eq_of_lt h0 (by simpa using h1)
theorem w64n (n : Nat) (h1 : n < 18446744073709551616) : IntKind.u64.wrap (n : Int) = (n : Int) := w64 _ (by omega) (by omega)
theorem wn {x : Int} {n : Nat} (h : x = (n : Int)) (hn : n < 18446744073709551616) : IntKind.u64.wrap x = (n : Int) := by rw [h]; exact w64n n hn
theorem subw {q : Nat} (h1 : 1 ≤ q) (h4 : q ≤ 4294967297) : IntKind.u64.wrap ((q : Int) - 1) = ((q - 1 : Nat) : Int) := wn (by omega) (by omega)
theorem and_mask (x : Nat) (h : x < 18446744073709551616) : bits .and .u64 (x : Int) 4294967295 = ((x % 4294967296 : Nat) : Int) := by
  have := bits_mask .u64 64 (by decide) w64 32 (by decide) (x : Int) (by omega) (by omega)
  have e : ((2 : Int) ^ 32 - 1) = 4294967295 := by decide
  have e2 : ((2 : Int) ^ 32) = 4294967296 := by decide
  rw [e, e2] at this
  rw [this]; omega
theorem and_one (x : Nat) (h : x < 18446744073709551616) : bits .and .u64 (x : Int) 1 = ((x % 2 : Nat) : Int) := by
  have := bits_mask .u64 64 (by decide) w64 1 (by decide) (x : Int) (by omega) (by omega)
  have e : ((2 : Int) ^ 1 - 1) = 1 := by decide
  have e2 : ((2 : Int) ^ 1) = 2 := by decide
  rw [e, e2] at this
  rw [this]; omega
/- the modulus P: 18446744073709532632 = 4294967295 2^32 + 4294948312 -/
theorem y0_P : bits .and .u64 18446744073709532632 4294967295 = 4294948312 := by decide +kernel
theorem set_P (hi lo : Nat) (h1 : hi < 2305843009213691579) (h2 : lo < 18446744073709551616) : ∃ u u1 u0 : Nat, u < 18446744073709532632 ∧ u1 < 4294967296 ∧ u0 < 4294967296 ∧ (u * 4294967296 + u1) * 4294967296 + u0 = (hi * 18446744073709551616 + lo) * 8 ∧
    bits BinOp.or IntKind.u64 (IntKind.u64.wrap ((hi : Int) * 8)) ((lo : Int) / 2305843009213693952) = (u : Int) ∧ IntKind.u64.wrap ((lo : Int) * 8) / 4294967296 = (u1 : Int) ∧ bits BinOp.and IntKind.u64 (IntKind.u64.wrap ((lo : Int) * 8)) 4294967295 = (u0 : Int) := by
  have e1 : IntKind.u64.wrap ((hi : Int) * 8) = ((hi * 8 : Nat) : Int) := wn (by omega) (by omega)
  have e2 : IntKind.u64.wrap ((lo : Int) * 8) = ((lo * 8 % 18446744073709551616 : Nat) : Int) := by rw [IntKind.wrap_u64]; omega
  refine ⟨hi * 8 + lo / 2305843009213693952, lo * 8 % 18446744073709551616 / 4294967296, lo * 8 % 18446744073709551616 % 4294967296, by omega, by omega, by omega, by omega, ?_, ?_, ?_⟩
  · rw [e1]
    have e3 : ((2 : Int) ^ 3) = 8 := by decide
    have e4 : ((2 : Int) ^ 64) = 18446744073709551616 := by decide
    have := bits_join .u64 64 (by decide) w64 3 ((hi * 8 : Nat) : Int) ((lo : Int) / 2305843009213693952) (by omega) (by rw [e3]; omega) (by rw [e4]; omega) (by omega) (by rw [e3]; omega) (by rw [e4]; omega)
    rw [this]; omega
  · rw [e2]; omega
  · rw [e2]; exact and_mask _ (by omega)
/-- the state of the estimate: q is no less than the quotient -/
structure EstP (u u1 q r : Nat) : Prop where
  sum : q * 4294967295 + r = u
  low : u * 4294967296 + u1 < (q + 1) * 18446744073709532632
  rem : r < 4294967296
  most : q ≤ 4294967297
theorem est0_P (u u1 : Nat) (hu : u < 18446744073709532632) (hu1 : u1 < 4294967296) : ∃ q r : Nat, EstP u u1 q r ∧ IntKind.u64.wrap ((u : Int) / 4294967295) = (q : Int) ∧ IntKind.u64.wrap ((u : Int) - IntKind.u64.wrap ((q : Int) * 4294967295)) = (r : Int) := by
  have hd := Nat.div_add_mod u 4294967295
  have hm := Nat.mod_lt u (show 0 < 4294967295 by omega)
  refine ⟨u / 4294967295, u % 4294967295, ⟨by omega, by omega, by omega, by omega⟩, wn (by omega) (by omega), ?_⟩
  have e1 : IntKind.u64.wrap (((u / 4294967295 : Nat) : Int) * 4294967295) = ((u / 4294967295 * 4294967295 : Nat) : Int) := wn (by omega) (by omega)
  rw [e1]; exact wn (by omega) (by omega)
theorem estw_P {u u1 q r : Nat} (h : EstP u u1 q r) (hu1 : u1 < 4294967296) : IntKind.u64.wrap ((q : Int) * 4294948312) = ((q * 4294948312 : Nat) : Int) ∧ IntKind.u64.wrap (IntKind.u64.wrap (4294967296 * (r : Int)) + (u1 : Int)) = ((r * 4294967296 + u1 : Nat) : Int) := by
  have h3 := h.rem
  have h4 := h.most
  clear h
  have e1 : IntKind.u64.wrap (4294967296 * (r : Int)) = ((r * 4294967296 : Nat) : Int) := wn (by omega) (by omega)
  refine ⟨wn (by omega) (by omega), ?_⟩
  rw [e1]
  exact wn (by omega) (by omega)
theorem Y_P : 18446744073709532632 = 4294967295 * 4294967296 + 4294948312 := by decide +kernel
theorem addw_P {r : Nat} (h3 : r < 4294967296) : IntKind.u64.wrap ((r : Int) + 4294967295) = ((r + 4294967295 : Nat) : Int) := wn (by omega) (by omega)
theorem estx_P {u u1 q r : Nat} (h : EstP u u1 q r) (hu : u < 18446744073709532632) (hu1 : u1 < 4294967296) (hc : 4294967296 ≤ q ∨ r * 4294967296 + u1 < q * 4294948312) : 1 ≤ q ∧ IntKind.u64.wrap ((q : Int) - 1) = ((q - 1 : Nat) : Int) ∧ IntKind.u64.wrap ((r : Int) + 4294967295) = ((r + 4294967295 : Nat) : Int) ∧
    (r + 4294967295 < 4294967296 → EstP u u1 (q - 1) (r + 4294967295)) ∧ (4294967296 ≤ r + 4294967295 → (u * 4294967296 + u1) / 18446744073709532632 = q - 1) := by
  have hl := knuL Y_P h.sum hu hu1 hc
  have hq : 1 ≤ q := Nat.pos_of_ne_zero fun e => by rw [e, Nat.zero_mul] at hl; exact absurd hl (Nat.not_lt_zero _)
  have hw := subw hq h.most
  have h1 := h.sum
  have h4 := h.most
  obtain ⟨n, rfl⟩ : ∃ n, q = n + 1 := ⟨q - 1, by clear hl h1 hc hu h; omega⟩
  have hn : n + 1 - 1 = n := rfl
  rw [hn] at hw ⊢
  refine ⟨hq, hw, addw_P h.rem, fun hr => ⟨knuS h1, hl, hr, by clear hl h1 hc hu h hw; omega⟩, fun hr => ?_⟩
  exact Nat.div_eq_of_lt_le (knuQ Y_P (by decide +kernel) h1 (by clear hl h1 hc hu h hw; omega) hr) hl
theorem este_P {u u1 q r : Nat} (h : EstP u u1 q r) (hc : ¬ (4294967296 ≤ q ∨ r * 4294967296 + u1 < q * 4294948312)) : (u * 4294967296 + u1) / 18446744073709532632 = q :=
  Nat.div_eq_of_lt_le (knuE Y_P h.sum (Nat.le_of_not_lt fun e => hc (.inr e))) h.low
theorem restA_P (u u1 q r : Nat) (hd : 18446744073709532632 * q + r = u * 4294967296 + u1) (hm : r < 18446744073709532632) : IntKind.u64.wrap (IntKind.u64.wrap (IntKind.u64.wrap ((u : Int) * 4294967296) + (u1 : Int)) - IntKind.u64.wrap ((q : Int) * 18446744073709532632)) = (r : Int) := by
  simp only [IntKind.wrap_u64]
  omega
theorem rest_P (u u1 : Nat) : IntKind.u64.wrap (IntKind.u64.wrap (IntKind.u64.wrap ((u : Int) * 4294967296) + (u1 : Int)) - IntKind.u64.wrap ((((u * 4294967296 + u1) / 18446744073709532632 : Nat) : Int) * 18446744073709532632)) = (((u * 4294967296 + u1) % 18446744073709532632 : Nat) : Int) ∧ (u * 4294967296 + u1) % 18446744073709532632 < 18446744073709532632 :=
  ⟨restA_P u u1 _ _ (Nat.div_add_mod _ _) (Nat.mod_lt _ (by omega)), Nat.mod_lt _ (by omega)⟩
theorem finA_P (z u u1 u0 q r q0 r0 qq rr : Nat) (hz : z < 2305843009213691579 * 18446744073709551616) (he : (u * 4294967296 + u1) * 4294967296 + u0 = z * 8)
    (hd : 18446744073709532632 * q + r = u * 4294967296 + u1) (hd2 : 18446744073709532632 * q0 + r0 = r * 4294967296 + u0) (hm2 : r0 < 18446744073709532632) (hd3 : 2305843009213691579 * qq + rr = z) (hm3 : rr < 2305843009213691579) (hq0 : q0 < 4294967296) :
    IntKind.u64.wrap (IntKind.u64.wrap ((q : Int) * 4294967296) + (q0 : Int)) = (qq : Int) ∧ (r0 : Int) / 8 = (rr : Int) := by
  have hq : qq = q * 4294967296 + q0 ∧ r0 = rr * 8 := knuF (by decide +kernel) (by decide) he hd hd2 hm2 hd3 hm3
  obtain ⟨h1, h2⟩ := hq
  have hqq : qq < 18446744073709551616 := by
    clear hd hd2 h1 h2 he
    omega
  refine ⟨?_, by clear hd hd2 hd3 he hz hqq h1; omega⟩
  clear hd hd2 hd3 he hz h2
  rw [wn (x := (q : Int) * 4294967296) (n := q * 4294967296) (by omega) (by omega)]
  exact wn (by omega) (by omega)
theorem fin_P (hi lo u u1 u0 : Nat) (h1 : hi < 2305843009213691579) (h2 : lo < 18446744073709551616) (hu0 : u0 < 4294967296) (he : (u * 4294967296 + u1) * 4294967296 + u0 = (hi * 18446744073709551616 + lo) * 8) :
    IntKind.u64.wrap (IntKind.u64.wrap ((((u * 4294967296 + u1) / 18446744073709532632 : Nat) : Int) * 4294967296) + (((((u * 4294967296 + u1) % 18446744073709532632) * 4294967296 + u0) / 18446744073709532632 : Nat) : Int)) = (((hi * 18446744073709551616 + lo) / 2305843009213691579 : Nat) : Int) ∧
    IntKind.u64.wrap (IntKind.u64.wrap (IntKind.u64.wrap ((((u * 4294967296 + u1) % 18446744073709532632 : Nat) : Int) * 4294967296) + (u0 : Int)) - IntKind.u64.wrap ((((((u * 4294967296 + u1) % 18446744073709532632) * 4294967296 + u0) / 18446744073709532632 : Nat) : Int) * 18446744073709532632)) / 8 = (((hi * 18446744073709551616 + lo) % 2305843009213691579 : Nat) : Int) := by
  rw [(rest_P ((u * 4294967296 + u1) % 18446744073709532632) u0).1]
  refine finA_P (hi * 18446744073709551616 + lo) u u1 u0 _ ((u * 4294967296 + u1) % 18446744073709532632) _ _ _ _ (by omega) he (Nat.div_add_mod _ _) (Nat.div_add_mod _ _) (Nat.mod_lt _ (by omega)) (Nat.div_add_mod _ _) (Nat.mod_lt _ (by omega)) ?_
  have := Nat.mod_lt (u * 4294967296 + u1) (show 0 < 18446744073709532632 by omega)
  omega
/- the modulus Q: 18446744073709532624 = 4294967295 2^32 + 4294948304 -/
theorem y0_Q : bits .and .u64 18446744073709532624 4294967295 = 4294948304 := by decide +kernel
theorem set_Q (hi lo : Nat) (h1 : hi < 1152921504606845789) (h2 : lo < 18446744073709551616) : ∃ u u1 u0 : Nat, u < 18446744073709532624 ∧ u1 < 4294967296 ∧ u0 < 4294967296 ∧ (u * 4294967296 + u1) * 4294967296 + u0 = (hi * 18446744073709551616 + lo) * 16 ∧
    bits BinOp.or IntKind.u64 (IntKind.u64.wrap ((hi : Int) * 16)) ((lo : Int) / 1152921504606846976) = (u : Int) ∧ IntKind.u64.wrap ((lo : Int) * 16) / 4294967296 = (u1 : Int) ∧ bits BinOp.and IntKind.u64 (IntKind.u64.wrap ((lo : Int) * 16)) 4294967295 = (u0 : Int) := by
  have e1 : IntKind.u64.wrap ((hi : Int) * 16) = ((hi * 16 : Nat) : Int) := wn (by omega) (by omega)
  have e2 : IntKind.u64.wrap ((lo : Int) * 16) = ((lo * 16 % 18446744073709551616 : Nat) : Int) := by rw [IntKind.wrap_u64]; omega
  refine ⟨hi * 16 + lo / 1152921504606846976, lo * 16 % 18446744073709551616 / 4294967296, lo * 16 % 18446744073709551616 % 4294967296, by omega, by omega, by omega, by omega, ?_, ?_, ?_⟩
  · rw [e1]
    have e3 : ((2 : Int) ^ 4) = 16 := by decide
    have e4 : ((2 : Int) ^ 64) = 18446744073709551616 := by decide
    have := bits_join .u64 64 (by decide) w64 4 ((hi * 16 : Nat) : Int) ((lo : Int) / 1152921504606846976) (by omega) (by rw [e3]; omega) (by rw [e4]; omega) (by omega) (by rw [e3]; omega) (by rw [e4]; omega)
    rw [this]; omega
  · rw [e2]; omega
  · rw [e2]; exact and_mask _ (by omega)
/-- the state of the estimate: q is no less than the quotient -/
structure EstQ (u u1 q r : Nat) : Prop where
  sum : q * 4294967295 + r = u
  low : u * 4294967296 + u1 < (q + 1) * 18446744073709532624
  rem : r < 4294967296
  most : q ≤ 4294967297
theorem est0_Q (u u1 : Nat) (hu : u < 18446744073709532624) (hu1 : u1 < 4294967296) : ∃ q r : Nat, EstQ u u1 q r ∧ IntKind.u64.wrap ((u : Int) / 4294967295) = (q : Int) ∧ IntKind.u64.wrap ((u : Int) - IntKind.u64.wrap ((q : Int) * 4294967295)) = (r : Int) := by
  have hd := Nat.div_add_mod u 4294967295
  have hm := Nat.mod_lt u (show 0 < 4294967295 by omega)
  refine ⟨u / 4294967295, u % 4294967295, ⟨by omega, by omega, by omega, by omega⟩, wn (by omega) (by omega), ?_⟩
  have e1 : IntKind.u64.wrap (((u / 4294967295 : Nat) : Int) * 4294967295) = ((u / 4294967295 * 4294967295 : Nat) : Int) := wn (by omega) (by omega)
  rw [e1]; exact wn (by omega) (by omega)
theorem estw_Q {u u1 q r : Nat} (h : EstQ u u1 q r) (hu1 : u1 < 4294967296) : IntKind.u64.wrap ((q : Int) * 4294948304) = ((q * 4294948304 : Nat) : Int) ∧ IntKind.u64.wrap (IntKind.u64.wrap (4294967296 * (r : Int)) + (u1 : Int)) = ((r * 4294967296 + u1 : Nat) : Int) := by
  have h3 := h.rem
  have h4 := h.most
  clear h
  have e1 : IntKind.u64.wrap (4294967296 * (r : Int)) = ((r * 4294967296 : Nat) : Int) := wn (by omega) (by omega)
  refine ⟨wn (by omega) (by omega), ?_⟩
  rw [e1]
  exact wn (by omega) (by omega)
theorem Y_Q : 18446744073709532624 = 4294967295 * 4294967296 + 4294948304 := by decide +kernel
theorem addw_Q {r : Nat} (h3 : r < 4294967296) : IntKind.u64.wrap ((r : Int) + 4294967295) = ((r + 4294967295 : Nat) : Int) := wn (by omega) (by omega)
theorem estx_Q {u u1 q r : Nat} (h : EstQ u u1 q r) (hu : u < 18446744073709532624) (hu1 : u1 < 4294967296) (hc : 4294967296 ≤ q ∨ r * 4294967296 + u1 < q * 4294948304) : 1 ≤ q ∧ IntKind.u64.wrap ((q : Int) - 1) = ((q - 1 : Nat) : Int) ∧ IntKind.u64.wrap ((r : Int) + 4294967295) = ((r + 4294967295 : Nat) : Int) ∧
    (r + 4294967295 < 4294967296 → EstQ u u1 (q - 1) (r + 4294967295)) ∧ (4294967296 ≤ r + 4294967295 → (u * 4294967296 + u1) / 18446744073709532624 = q - 1) := by
  have hl := knuL Y_Q h.sum hu hu1 hc
  have hq : 1 ≤ q := Nat.pos_of_ne_zero fun e => by rw [e, Nat.zero_mul] at hl; exact absurd hl (Nat.not_lt_zero _)
  have hw := subw hq h.most
  have h1 := h.sum
  have h4 := h.most
  obtain ⟨n, rfl⟩ : ∃ n, q = n + 1 := ⟨q - 1, by clear hl h1 hc hu h; omega⟩
  have hn : n + 1 - 1 = n := rfl
  rw [hn] at hw ⊢
  refine ⟨hq, hw, addw_Q h.rem, fun hr => ⟨knuS h1, hl, hr, by clear hl h1 hc hu h hw; omega⟩, fun hr => ?_⟩
  exact Nat.div_eq_of_lt_le (knuQ Y_Q (by decide +kernel) h1 (by clear hl h1 hc hu h hw; omega) hr) hl
theorem este_Q {u u1 q r : Nat} (h : EstQ u u1 q r) (hc : ¬ (4294967296 ≤ q ∨ r * 4294967296 + u1 < q * 4294948304)) : (u * 4294967296 + u1) / 18446744073709532624 = q :=
  Nat.div_eq_of_lt_le (knuE Y_Q h.sum (Nat.le_of_not_lt fun e => hc (.inr e))) h.low
theorem restA_Q (u u1 q r : Nat) (hd : 18446744073709532624 * q + r = u * 4294967296 + u1) (hm : r < 18446744073709532624) : IntKind.u64.wrap (IntKind.u64.wrap (IntKind.u64.wrap ((u : Int) * 4294967296) + (u1 : Int)) - IntKind.u64.wrap ((q : Int) * 18446744073709532624)) = (r : Int) := by
  simp only [IntKind.wrap_u64]
  omega
theorem rest_Q (u u1 : Nat) : IntKind.u64.wrap (IntKind.u64.wrap (IntKind.u64.wrap ((u : Int) * 4294967296) + (u1 : Int)) - IntKind.u64.wrap ((((u * 4294967296 + u1) / 18446744073709532624 : Nat) : Int) * 18446744073709532624)) = (((u * 4294967296 + u1) % 18446744073709532624 : Nat) : Int) ∧ (u * 4294967296 + u1) % 18446744073709532624 < 18446744073709532624 :=
  ⟨restA_Q u u1 _ _ (Nat.div_add_mod _ _) (Nat.mod_lt _ (by omega)), Nat.mod_lt _ (by omega)⟩
theorem finA_Q (z u u1 u0 q r q0 r0 qq rr : Nat) (hz : z < 1152921504606845789 * 18446744073709551616) (he : (u * 4294967296 + u1) * 4294967296 + u0 = z * 16)
    (hd : 18446744073709532624 * q + r = u * 4294967296 + u1) (hd2 : 18446744073709532624 * q0 + r0 = r * 4294967296 + u0) (hm2 : r0 < 18446744073709532624) (hd3 : 1152921504606845789 * qq + rr = z) (hm3 : rr < 1152921504606845789) (hq0 : q0 < 4294967296) :
    IntKind.u64.wrap (IntKind.u64.wrap ((q : Int) * 4294967296) + (q0 : Int)) = (qq : Int) ∧ (r0 : Int) / 16 = (rr : Int) := by
  have hq : qq = q * 4294967296 + q0 ∧ r0 = rr * 16 := knuF (by decide +kernel) (by decide) he hd hd2 hm2 hd3 hm3
  obtain ⟨h1, h2⟩ := hq
  have hqq : qq < 18446744073709551616 := by
    clear hd hd2 h1 h2 he
    omega
  refine ⟨?_, by clear hd hd2 hd3 he hz hqq h1; omega⟩
  clear hd hd2 hd3 he hz h2
  rw [wn (x := (q : Int) * 4294967296) (n := q * 4294967296) (by omega) (by omega)]
  exact wn (by omega) (by omega)
theorem fin_Q (hi lo u u1 u0 : Nat) (h1 : hi < 1152921504606845789) (h2 : lo < 18446744073709551616) (hu0 : u0 < 4294967296) (he : (u * 4294967296 + u1) * 4294967296 + u0 = (hi * 18446744073709551616 + lo) * 16) :
    IntKind.u64.wrap (IntKind.u64.wrap ((((u * 4294967296 + u1) / 18446744073709532624 : Nat) : Int) * 4294967296) + (((((u * 4294967296 + u1) % 18446744073709532624) * 4294967296 + u0) / 18446744073709532624 : Nat) : Int)) = (((hi * 18446744073709551616 + lo) / 1152921504606845789 : Nat) : Int) ∧
    IntKind.u64.wrap (IntKind.u64.wrap (IntKind.u64.wrap ((((u * 4294967296 + u1) % 18446744073709532624 : Nat) : Int) * 4294967296) + (u0 : Int)) - IntKind.u64.wrap ((((((u * 4294967296 + u1) % 18446744073709532624) * 4294967296 + u0) / 18446744073709532624 : Nat) : Int) * 18446744073709532624)) / 16 = (((hi * 18446744073709551616 + lo) % 1152921504606845789 : Nat) : Int) := by
  rw [(rest_Q ((u * 4294967296 + u1) % 18446744073709532624) u0).1]
  refine finA_Q (hi * 18446744073709551616 + lo) u u1 u0 _ ((u * 4294967296 + u1) % 18446744073709532624) _ _ _ _ (by omega) he (Nat.div_add_mod _ _) (Nat.div_add_mod _ _) (Nat.mod_lt _ (by omega)) (Nat.div_add_mod _ _) (Nat.mod_lt _ (by omega)) ?_
  have := Nat.mod_lt (u * 4294967296 + u1) (show 0 < 18446744073709532624 by omega)
  omega
end Go.Proofs.Ytpcodholllaceaa
