/- floor. -/
import Derived.Test.YthlnfjbedehjdaaA7
namespace Go.Proofs.Ythlnfjbedehjdaa
open Go.RowKit Go.Shelf

theorem tdiv_floor {a b : Int} (hb : 0 < b) : (if a.tmod b < 0 then a.tdiv b - 1 else a.tdiv b) = a / b := by
  have h1 := Int.tmod_add_mul_tdiv a b
  have h2 := Int.emod_add_mul_ediv a b
  have h3 := Int.emod_nonneg a (show b ≠ 0 by omega)
  have h4 := Int.emod_lt_of_pos a hb
  have h5 : -b < a.tmod b ∧ a.tmod b < b := by
    rcases Int.lt_or_le a 0 with h | h
    · have := Int.tmod_eq_emod_of_nonneg (a := -a) (b := b) (by omega)
      rw [Int.neg_tmod] at this
      have h6 := Int.emod_nonneg (-a) (show b ≠ 0 by omega)
      have h7 := Int.emod_lt_of_pos (-a) hb
      omega
    · have := Int.tmod_eq_emod_of_nonneg (a := a) (b := b) h
      omega
  split
  · rename_i h
    have h6 : b * (a.tdiv b - 1 - a / b) = a % b - a.tmod b - b := by rw [Int.mul_sub, Int.mul_sub]; omega
    have h7 : a.tdiv b - 1 - a / b = 0 := by
      rcases Int.lt_trichotomy (a.tdiv b - 1 - a / b) 0 with h8 | h8 | h8
      · have := Int.mul_le_mul_of_nonneg_left (show a.tdiv b - 1 - a / b ≤ -1 by omega) (show 0 ≤ b by omega)
        omega
      · exact h8
      · have := Int.mul_le_mul_of_nonneg_left (show (1 : Int) ≤ a.tdiv b - 1 - a / b by omega) (show 0 ≤ b by omega)
        omega
    omega
  · rename_i h
    have h6 : b * (a.tdiv b - a / b) = a % b - a.tmod b := by rw [Int.mul_sub]; omega
    have h7 : a.tdiv b - a / b = 0 := by
      rcases Int.lt_trichotomy (a.tdiv b - a / b) 0 with h8 | h8 | h8
      · have := Int.mul_le_mul_of_nonneg_left (show a.tdiv b - a / b ≤ -1 by omega) (show 0 ≤ b by omega)
        omega
      · exact h8
      · have := Int.mul_le_mul_of_nonneg_left (show (1 : Int) ≤ a.tdiv b - a / b by omega) (show 0 ≤ b by omega)
        omega
    omega
theorem floor_any (w : World) (a b : Int) (hb : 1 ≤ b ∧ b ≤ 999) (ha : -1000000000000 ≤ a ∧ a ≤ 1000000000000) : Calls Try.prog 54 #[.int .i64 a, .int .i64 b] w fun e w' => e = .returned (.int .i64 (a / b)) ∧ w = w' := by
  have hf := tdiv_floor (a := a) (b := b) (by omega)
  have h1 := Int.tmod_add_mul_tdiv a b
  obtain ⟨hb1, hb2⟩ := hb
  obtain ⟨ha1, ha2⟩ := ha
  have hq : -1000000000001 ≤ a / b ∧ a / b ≤ 1000000000001 := by
    constructor
    · exact Int.le_ediv_of_mul_le (by omega) (by omega)
    · rcases Int.lt_or_le a 0 with h | h
      · have := Int.ediv_neg_of_neg_of_pos h (show 0 < b by omega); omega
      · have := Int.ediv_le_self b h; omega
  have HF := Lib.hid hf
  clear hf h1
  by_cases t : a.tmod b < 0
  · have hd : a.tdiv b - 1 = a / b := by have := HF.out; rw [if_pos t] at this; exact this
    have hw : wrap64 (a.tdiv b - 1) = a / b := by rw [hd]; exact IntWalk.wrap64_in _ (by omega)
    have HW := Lib.hid hw
    clear hd hw
    go_enter Try.func54, Try.ntmps54
    go_wp2_with fail
    go_ret
    exact ⟨ret_int HW.out, rfl⟩
  · have hd : a.tdiv b = a / b := by have := HF.out; rw [if_neg t] at this; exact this
    have HW := Lib.hid hd
    clear hd
    go_enter Try.func54, Try.ntmps54
    go_wp2_with fail
    go_ret
    exact ⟨ret_int HW.out, rfl⟩
end Go.Proofs.Ythlnfjbedehjdaa
