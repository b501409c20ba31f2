/- Package wal's checksum. -/
import Derived.Test.YtocjhepiooljpaaA1
namespace Go.Proofs.Ytocjhepiooljpaa
open Go.RowKit

theorem bit_even {p : Nat} (h : p < 4294967296) : bits .xor .u32 ((p : Int) / 2) (3988292384 * ((p : Int) % 2)) = ((bitS p : Nat) : Int) := by
  unfold bitS
  split
  · rename_i e
    rw [show ((p : Int) % 2) = 1 by omega]
    exact u32_xor_nat (p / 2) 3988292384 (by omega) (by omega)
  · rename_i e
    rw [show ((p : Int) % 2) = 0 by omega]
    have := u32_xor_nat (p / 2) 0 (by omega) (by omega)
    rw [Nat.xor_zero] at this
    exact this
theorem and32_one {p : Nat} (h : p < 4294967296) : bits .and .u32 (p : Int) 1 = ((p % 2 : Nat) : Int) := by
  have := u32_and_nat p 1 h (by omega)
  rw [nat_mask1] at this
  exact this
theorem not32 {p : Nat} (h : p < 4294967296) : bits .xor .u32 IntKind.u32.max (p : Int) = ((p ^^^ 4294967295 : Nat) : Int) := by
  have := u32_xor_nat 4294967295 p (by omega) h
  rw [Nat.xor_comm] at this
  exact this

set_option maxRecDepth 20000 in
set_option maxHeartbeats 1000000 in
theorem sum_any (w : World) (M : Nat → Prop) (A : Option Addr) (c : Nat) (ss : List (List UInt8)) (hl : ss.length ≤ 140737488355328) (hl2 : ∀ s ∈ ss, s.length ≤ 140737488355328) (h : MatC w M A ss) :
    Calls Try.prog 65 #[.slice A ss.length c] w fun e w' => e = .returned (.int .u32 (crc ss.flatten : Nat)) ∧ w' = w := by
  have HS := Lib.hid h
  clear h
  go_enter Try.func65, Try.ntmps65
  go_wp2
  go_loopw [3, 10] (fun n i wr => ∃ (k m : Nat), k ≤ ss.length ∧ i = .int .i64 (k : Int) ∧ n = .int .u32 (m : Int) ∧ m < 4294967296 ∧ Hid (m = crcL 4294967295 (ss.take k).flatten) ∧ Hid (wr = w)) (fun _ i _ => ss.length - (intOf i).toNat)
  case atStart => exact ⟨0, 4294967295, Nat.zero_le _, rfl, rfl, by omega, Lib.hid rfl, Lib.hid rfl⟩
  case round =>
    obtain ⟨k, m, hk, rfl, rfl, hm, HM, HB⟩ := hrel
    by_cases hlt : k < ss.length
    · obtain ⟨b, off, bA, bc, rfl, hbl, hck, hb1, hb2, hb3⟩ := HS.out.at_ (same_below HB.out) hlt
      have hk0 : (0 : Int) ≤ (k : Int) := by omega
      have hk1 : (k : Int) < (ss.length : Int) := by omega
      have HY := Lib.hid hb3
      have hlen := hl2 _ (List.getElem_mem hlt)
      obtain ⟨bs, hbs⟩ : ∃ bs, bs = ss[k] := ⟨_, rfl⟩
      rw [← hbs] at hck hb1 HY hlen
      have HE := Lib.hid hbs
      clear hb3 hbs
      go_wp2
      go_loopw [3, 16] (fun n i wr => ∃ (j p : Nat), j ≤ bs.length ∧ i = .int .i64 (j : Int) ∧ n = .int .u32 (p : Int) ∧ p < 4294967296 ∧ Hid (p = crcL m (bs.take j)) ∧ Hid (wr = w)) (fun _ i _ => bs.length - (intOf i).toNat)
      case atStart => exact ⟨0, m, Nat.zero_le _, rfl, rfl, hm, Lib.hid rfl, HB⟩
      case round =>
        obtain ⟨j, p, hj, rfl, rfl, hp, HP, HB2⟩ := hrel
        by_cases hlj : j < bs.length
        · obtain ⟨b2, off2, rfl, hba, hbl2, hcj⟩ := HY.out.at_ (same_below HB2.out) hlj
          have hj0 : (0 : Int) ≤ (j : Int) := by omega
          have hj1 : (j : Int) < (bs.length : Int) := by omega
          have hx := xor32_byte hp bs[j]
          have hq := byte_lt bs[j]
          obtain ⟨q, hqe⟩ : ∃ q, q = (bs[j]).toNat := ⟨_, rfl⟩
          rw [← hqe] at hx hcj hq
          have HQ := Lib.hid hqe
          clear hqe
          go_wp2
          go_loopw [3, 24] (fun n i wr => ∃ (t u : Nat), t ≤ 8 ∧ i = .int .i64 (t : Int) ∧ n = .int .u32 (u : Int) ∧ u < 4294967296 ∧ Hid (u = bitsS t (p ^^^ q)) ∧ Hid (wr = w)) (fun _ i _ => 8 - (intOf i).toNat)
          case atStart => exact ⟨0, p ^^^ q, Nat.zero_le _, rfl, by first | rfl | rw [hx], xor_lt32 hp (by omega), Lib.hid rfl, HB2⟩
          case round =>
            obtain ⟨t, u, ht, rfl, rfl, hu, HU, HB3⟩ := hrel
            by_cases ht8 : t < 8
            · have ht0 : (0 : Int) ≤ (t : Int) := by omega
              have ht1 : (t : Int) < 8 := by omega
              have ha := and32_one hu
              have hb := bit_even hu
              go_wp2
              go_roundw
              case rel => exact ⟨t + 1, bitS u, by omega, rfl, by first | rfl | rw [bit_even hu], bitS_lt hu, Lib.hid (by unfold bitsS; rw [← HU.out]), HB3⟩
              case measure => simp [intOf]; omega
            · go_wp2
              obtain rfl : t = 8 := by omega
              go_roundw
              case rel => exact ⟨j + 1, u, by omega, rfl, rfl, hu, Lib.hid (by rw [crcL_snoc _ _ _ hlj, HU.out, HQ.out, HP.out]; rfl), HB3⟩
              case measure => simp [intOf]; omega
        · go_wp2
          obtain rfl : j = bs.length := by omega
          go_roundw
          case rel => exact ⟨k + 1, p, by omega, rfl, rfl, hp, Lib.hid (by rw [List.take_add_one, List.getElem?_eq_getElem hlt, Option.toList_some, List.flatten_append, crcL_append, ← HM.out, HP.out, List.take_length, HE.out]; simp), HB2⟩
          case measure => simp [intOf]; omega
    · go_wp2
      go_ret
      rw [not32 hm, HM.out, show k = ss.length by omega, List.take_length]
      exact ⟨rfl, HB.out⟩
end Go.Proofs.Ytocjhepiooljpaa
