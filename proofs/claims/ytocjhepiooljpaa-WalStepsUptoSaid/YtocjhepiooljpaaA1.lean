/- The reference's checksum. -/
import Derived.Test.YtocjhepiooljpaaZs
import Derived.Test.YtocjhepiooljpaaL1
import Derived.Laws.BitsAllLaws
namespace Go.Proofs.Ytocjhepiooljpaa
open Go.RowKit

theorem same_below {w wr : World} (h : wr = w) : Below w.heap.size w wr := by rw [h]; exact Below.refl _ _
theorem BytesC.at_ {w wr : World} {M : Nat → Prop} {A : Option Addr} {bs : List UInt8} {k : Nat} (h : BytesC w M A bs) (hb : Below w.heap.size w wr) (hk : k < bs.length) :
    ∃ b off, A = some ⟨b, off, none⟩ ∧ M b ∧ b < w.heap.size ∧ wr.cell? ⟨b, off + k, none⟩ = some (.int .u8 (((bs[k]).toNat : Nat) : Int)) := by
  obtain ⟨b, off, e, hm, hl, hc⟩ := Cells.at1 h hb hk
  rw [List.getD_eq_getElem?_getD, List.getElem?_eq_getElem hk, Option.getD_some] at hc
  exact ⟨b, off, e, hm, hl, hc⟩
theorem xor32_byte {n : Nat} (h : n < 4294967296) (c : UInt8) : bits .xor .u32 (n : Int) ((c.toNat : Nat) : Int) = ((n ^^^ c.toNat : Nat) : Int) := u32_xor_nat n c.toNat h (by have := byte_lt c; omega)
theorem xor32_poly {n : Nat} (h : n < 4294967296) : bits .xor .u32 ((n / 2 : Nat) : Int) 3988292384 = ((n / 2 ^^^ 3988292384 : Nat) : Int) := u32_xor_nat (n / 2) 3988292384 (by omega) (by omega)
theorem xor32_ones {n : Nat} (h : n < 4294967296) : bits .xor .u32 (n : Int) 4294967295 = ((n ^^^ 4294967295 : Nat) : Int) := u32_xor_nat n 4294967295 h (by omega)

set_option maxRecDepth 20000 in
set_option maxHeartbeats 1000000 in
theorem checksum_any (w : World) (M : Nat → Prop) (A : Option Addr) (c : Nat) (bs : List UInt8) (hl : bs.length ≤ 140737488355328) (h : BytesC w M A bs) :
    Calls Try.prog 67 #[.slice A bs.length c] w fun e w' => e = .returned (.int .u32 (crc bs : Nat)) ∧ w' = w := by
  have HS := Lib.hid h
  clear h
  go_enter Try.func67, Try.ntmps67
  go_wp2
  go_loopw [3, 4] (fun n i wr => ∃ (k m : Nat), k ≤ bs.length ∧ i = .int .i64 (k : Int) ∧ n = .int .u32 (m : Int) ∧ m < 4294967296 ∧ Hid (m = crcL 4294967295 (bs.take k)) ∧ Hid (wr = w)) (fun _ i _ => bs.length - (intOf i).toNat)
  case atStart => exact ⟨0, 4294967295, Nat.zero_le _, rfl, rfl, by omega, Lib.hid rfl, Lib.hid rfl⟩
  case round =>
    obtain ⟨k, m, hk, rfl, rfl, hm, HM, HB⟩ := hrel
    by_cases hlt : k < bs.length
    · obtain ⟨b, off, rfl, hba, hbl, hck⟩ := HS.out.at_ (same_below HB.out) hlt
      have hk0 : (0 : Int) ≤ (k : Int) := by omega
      have hk1 : (k : Int) < (bs.length : Int) := by omega
      have hx := xor32_byte hm bs[k]
      have hq := byte_lt bs[k]
      obtain ⟨q, hqe⟩ : ∃ q, q = (bs[k]).toNat := ⟨_, rfl⟩
      rw [← hqe] at hx hck hq
      have HQ := Lib.hid hqe
      clear hqe
      go_wp2
      go_loopw [3, 5] (fun n i wr => ∃ (j p : Nat), j ≤ 8 ∧ i = .int .i64 (j : Int) ∧ n = .int .u32 (p : Int) ∧ p < 4294967296 ∧ Hid (p = bitsS j (m ^^^ q)) ∧ Hid (wr = w)) (fun _ i _ => 8 - (intOf i).toNat)
      case atStart => exact ⟨0, m ^^^ q, Nat.zero_le _, rfl, by first | rfl | rw [hx], xor_lt32 hm (by omega), Lib.hid rfl, HB⟩
      case round =>
        obtain ⟨j, p, hj, rfl, rfl, hp, HP, HB2⟩ := hrel
        by_cases hj8 : j < 8
        · have hj0 : (0 : Int) ≤ (j : Int) := by omega
          have hj1 : (j : Int) < 8 := by omega
          have hy := xor32_poly hp
          by_cases ho : p % 2 = 1
          · go_wp2
            go_roundw
            case rel => exact ⟨j + 1, p / 2 ^^^ 3988292384, by omega, rfl, by rw [← xor32_poly hp]; rfl, xor_lt32 (by omega) (by omega), Lib.hid (by unfold bitsS bitS; rw [← HP.out, if_pos ho]), HB2⟩
            case measure => simp [intOf]; omega
          · go_wp2
            go_roundw
            case rel => exact ⟨j + 1, p / 2, by omega, rfl, rfl, by omega, Lib.hid (by unfold bitsS bitS; rw [← HP.out, if_neg ho]), HB2⟩
            case measure => simp [intOf]; omega
        · go_wp2
          obtain rfl : j = 8 := by omega
          go_roundw
          case rel => exact ⟨k + 1, p, by omega, rfl, rfl, hp, Lib.hid (by rw [crcL_snoc _ _ _ hlt, HP.out, HQ.out, HM.out]; rfl), HB2⟩
          case measure => simp [intOf]; omega
    · go_wp2
      go_ret
      rw [xor32_ones hm, HM.out, show k = bs.length by omega, List.take_length]
      exact ⟨rfl, HB.out⟩
end Go.Proofs.Ytocjhepiooljpaa
