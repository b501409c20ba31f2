/- The numbers that bytes represent. -/
import Derived.Test.YtocjhepiooljpaaA1
namespace Go.Proofs.Ytocjhepiooljpaa
open Go.RowKit

theorem num_take_snoc (bs : List UInt8) (k : Nat) (h : k < bs.length) : num (bs.take (k + 1)) = 256 * num (bs.take k) + (bs[k]).toNat := by
  rw [List.take_add_one, List.getElem?_eq_getElem h, Option.toList_some, num_snoc]
theorem num_le8 {bs : List UInt8} {k : Nat} (hl : bs.length ≤ 8) (h : k < bs.length) : num (bs.take k) < 72057594037927936 := by
  have := num_lt (bs.take k)
  have h2 : 256 ^ (bs.take k).length ≤ 256 ^ 7 := Nat.pow_le_pow_right (by omega) (by rw [List.length_take]; omega)
  omega

theorem or_byte {m q : Nat} (hm : m < 72057594037927936) (hq : q < 256) : bits .or .u64 ((m : Int) * 256) (q : Int) = ((256 * m + q : Nat) : Int) := by
  have := u64_or_nat (m * 256) q (by omega) (by omega)
  rw [nat_join 8 _ _ (by omega) hq, Nat.mul_comm m 256] at this
  rw [← this, Nat.mul_comm 256 m]
  rfl

set_option maxRecDepth 20000 in
set_option maxHeartbeats 1000000 in
theorem number_any (w : World) (M : Nat → Prop) (A : Option Addr) (c : Nat) (bs : List UInt8) (hl : bs.length ≤ 8) (h : BytesC w M A bs) :
    Calls Try.prog 63 #[.slice A bs.length c] w fun e w' => e = .returned (.int .u64 (num bs : Nat)) ∧ w' = w := by
  have HS := Lib.hid h
  clear h
  go_enter Try.func63, Try.ntmps63
  go_wp2
  go_loopw [3, 4] (fun n i wr => ∃ (k m : Nat), k ≤ bs.length ∧ i = .int .i64 (k : Int) ∧ n = .int .u64 (m : Int) ∧ Hid (m = num (bs.take k)) ∧ Hid (wr = w)) (fun _ i _ => bs.length - (intOf i).toNat)
  case atStart => exact ⟨0, 0, Nat.zero_le _, rfl, rfl, Lib.hid rfl, Lib.hid rfl⟩
  case round =>
    obtain ⟨k, m, hk, rfl, rfl, HM, HB⟩ := hrel
    by_cases hlt : k < bs.length
    · obtain ⟨b, off, rfl, hba, hbl, hck⟩ := HS.out.at_ (same_below HB.out) hlt
      have hk0 : (0 : Int) ≤ (k : Int) := by omega
      have hk1 : (k : Int) < (bs.length : Int) := by omega
      have hm : m < 72057594037927936 := by rw [HM.out]; exact num_le8 hl hlt
      have hq := byte_lt bs[k]
      obtain ⟨q, hqe⟩ : ∃ q, q = (bs[k]).toNat := ⟨_, rfl⟩
      rw [← hqe] at hck hq
      have HQ := Lib.hid hqe
      clear hqe
      go_wp2
      go_roundw
      case rel => exact ⟨k + 1, 256 * m + q, by omega, rfl, rfl, Lib.hid (by rw [num_take_snoc _ _ hlt, ← HM.out, ← HQ.out]), HB⟩
      case measure => simp [intOf]; omega
    · go_wp2
      go_ret
      rw [HM.out, show k = bs.length by omega, List.take_length]
      exact ⟨rfl, HB.out⟩

set_option maxRecDepth 20000 in
set_option maxHeartbeats 1000000 in
theorem get_any (w : World) (M : Nat → Prop) (A : Option Addr) (c : Nat) (bs : List UInt8) (hl : bs.length ≤ 8) (h : BytesC w M A bs) :
    Calls Try.prog 41 #[.slice A bs.length c] w fun e w' => e = .returned (.int .u64 (num bs : Nat)) ∧ w' = w := by
  have HS := Lib.hid h
  clear h
  go_enter Try.func41, Try.ntmps41
  go_wp2
  go_loopw [2, 7] (fun n i wr => ∃ (k m : Nat), k ≤ bs.length ∧ i = .int .i64 (k : Int) ∧ n = .int .u64 (m : Int) ∧ Hid (m = num (bs.take k)) ∧ Hid (wr = w)) (fun _ i _ => bs.length - (intOf i).toNat)
  case atStart => exact ⟨0, 0, Nat.zero_le _, rfl, rfl, Lib.hid rfl, Lib.hid rfl⟩
  case round =>
    obtain ⟨k, m, hk, rfl, rfl, HM, HB⟩ := hrel
    by_cases hlt : k < bs.length
    · obtain ⟨b, off, rfl, hba, hbl, hck⟩ := HS.out.at_ (same_below HB.out) hlt
      have hk0 : (0 : Int) ≤ (k : Int) := by omega
      have hk1 : (k : Int) < (bs.length : Int) := by omega
      have hm : m < 72057594037927936 := by rw [HM.out]; exact num_le8 hl hlt
      have hq := byte_lt bs[k]
      obtain ⟨q, hqe⟩ : ∃ q, q = (bs[k]).toNat := ⟨_, rfl⟩
      rw [← hqe] at hck hq
      have HQ := Lib.hid hqe
      clear hqe
      go_wp2
      go_roundw
      case rel => exact ⟨k + 1, 256 * m + q, by omega, rfl, by rw [or_byte hm hq], Lib.hid (by rw [num_take_snoc _ _ hlt, ← HM.out, ← HQ.out]), HB⟩
      case measure => simp [intOf]; omega
    · go_wp2
      go_ret
      rw [HM.out, show k = bs.length by omega, List.take_length]
      exact ⟨rfl, HB.out⟩
end Go.Proofs.Ytocjhepiooljpaa
