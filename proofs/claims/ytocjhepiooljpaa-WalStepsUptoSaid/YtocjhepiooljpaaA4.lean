/- Bytes of numbers: the reference's numeral, and put of package wal. -/
import Derived.Test.YtocjhepiooljpaaA1
import Derived.Test.YtocjhepiooljpaaK1
import Derived.Deep.OwnRows
import Derived.BigRegion
import Derived.Deep.QuietTactic
import Derived.BigQuiet
namespace Go.Proofs.Ytocjhepiooljpaa
open Go.RowKit Go.Deep

/-- the bytes of a list, as cells -/
def bv (L : List UInt8) (i : Nat) : Value := byt (L.getD i 0)
theorem rowB_set {w : World} {g n i : Nat} {t : TypeId} {L : List UInt8} (h : w.rowIs g t n (bv L)) (hn : n = L.length) (c : UInt8) : (w.setCell ⟨g, i, none⟩ (byt c)).rowIs g t n (bv (L.set i c)) := by
  refine (h.set i (byt c)).congr fun j hj => ?_
  unfold bv
  rw [List.getD_eq_getElem?_getD, List.getD_eq_getElem?_getD, List.getElem?_set]
  by_cases e : j = i
  · subst e; rw [if_pos rfl, if_pos rfl, if_pos (by omega), Option.getD_some]
  · rw [if_neg e, if_neg (fun x => e x.symm)]
theorem numl_top (x k : Nat) : numl x (k + 1) = UInt8.ofNat (x / 256 ^ k % 256) :: numl x k := by
  induction k generalizing x with
  | zero => simp [numl]
  | succ k ih =>
    conv => lhs; unfold numl
    rw [ih, List.cons_append, Nat.div_div_eq_div_mul, ← Nat.pow_succ']
    conv => rhs; rhs; unfold numl
/-- bytes off .. off + n of L, the last i of them written with those of x -/
def putI (L : List UInt8) (off n x i : Nat) : List UInt8 := L.take (off + n - i) ++ numl x i ++ L.drop (off + n)
def putL (L : List UInt8) (off n x : Nat) : List UInt8 := L.take off ++ numl x n ++ L.drop (off + n)
theorem putI_length {L : List UInt8} {off n x i : Nat} (h : off + n ≤ L.length) (hi : i ≤ n) : (putI L off n x i).length = L.length := by
  unfold putI; simp [numl_length]; omega
theorem putI_zero (L : List UInt8) (off n x : Nat) : putI L off n x 0 = L := by
  unfold putI numl; simp
theorem putI_all (L : List UInt8) (off n x : Nat) : putI L off n x n = putL L off n x := by
  unfold putI putL; rw [Nat.add_sub_cancel]
theorem putI_succ {L : List UInt8} {off n x i : Nat} (h : off + n ≤ L.length) (hi : i < n) : (putI L off n x i).set (off + n - 1 - i) (UInt8.ofNat (x / 256 ^ i % 256)) = putI L off n x (i + 1) := by
  unfold putI
  have h1 : L.take (off + n - i) = L.take (off + n - (i + 1)) ++ [L.getD (off + n - 1 - i) 0] := by
    rw [show off + n - i = off + n - (i + 1) + 1 by omega, List.take_add_one, List.getElem?_eq_getElem (by omega), Option.toList_some, List.getD_eq_getElem?_getD, show off + n - 1 - i = off + n - (i + 1) by omega, List.getElem?_eq_getElem (by omega), Option.getD_some]
  rw [h1, numl_top, List.append_assoc, List.append_assoc, List.set_append_right _ _ (by rw [List.length_take]; omega), List.length_take, show off + n - 1 - i - min (off + n - (i + 1)) L.length = 0 by omega]
  simp
theorem toNat_byte (x : Nat) : (UInt8.ofNat (x % 256)).toNat = x % 256 := by rw [UInt8.toNat_ofNat']; omega

set_option maxRecDepth 20000 in
set_option maxHeartbeats 1000000 in
theorem put_any (w : World) (g off n c x : Nat) (t : TypeId) (L : List UInt8) (hn : n ≤ 8) (hon : off + n ≤ L.length) (hL : L.length ≤ 128) (h : w.rowIs g t L.length (bv L)) :
    Calls Try.prog 64 #[.slice (some ⟨g, off, none⟩) n c, .int .u64 (x : Int)] w fun e w' => e = .returned (.tuple #[]) ∧ w'.rowIs g t L.length (bv (putL L off n x)) ∧ Below g w w' := by
  have HS := Lib.hid h
  clear h
  go_enter Try.func64, Try.ntmps64
  go_wp2
  go_loopw [7] (fun i wr => ∃ k : Nat, k ≤ n ∧ i = .int .i64 (k : Int) ∧ Hid (wr.rowIs g t L.length (bv (putI L off n x k))) ∧ Hid (Below g w wr)) (fun i _ => n - (intOf i).toNat)
  case atStart => exact ⟨0, Nat.zero_le _, rfl, Lib.hid (by rw [putI_zero]; exact HS.out), Lib.hid (Below.refl _ _)⟩
  case round =>
    obtain ⟨k, hk, rfl, HR, HK⟩ := hrel
    by_cases hlt : k < n
    · have hk0 : (0 : Int) ≤ (k : Int) := by omega
      have hk1 : (k : Int) < (n : Int) := by omega
      have hk8 : (k : Int) < 8 := by omega
      have hc := HR.out.cell (i := off + (n - 1 - k)) (by omega)
      have hf := HR.out.frozen (off + (n - 1 - k))
      have hg := HR.out.lt
      have hv : (Value.int .u8 ((x : Int) / 2 ^ (8 * k) % 256)) = byt (UInt8.ofNat (x / 256 ^ k % 256)) := by
        unfold byt
        have e : (256 : Nat) ^ k = 2 ^ (8 * k) := by rw [Nat.pow_mul]
        rw [toNat_byte, e, Int.natCast_emod, Int.natCast_ediv, Int.natCast_pow]
        rfl
      have HV := Lib.hid hv
      clear hv
      go_wp2
      rw [HV.out]
      go_roundw
      case rel =>
        refine ⟨k + 1, by omega, rfl, Lib.hid ?_, Lib.hid (HK.out.setCell (Nat.le_refl _) _)⟩
        rw [← putI_succ hon hlt, show off + n - 1 - k = off + (n - 1 - k) by omega]
        exact rowB_set HR.out (putI_length hon hk).symm _
      case measure => simp [intOf]; omega
    · go_wp2
      obtain rfl : k = n := by omega
      go_end0
      rw [putI_all] at HR
      exact ⟨rfl, HR.out, HK.out⟩

theorem make_u8 (n : Nat) (h : n ≤ 65536) (w : World) : (Instr.makeSlice 35 (.int .i64 n) (.int .i64 n)).run Try.prog w = .ok (.slice (some ⟨w.heap.size, 0, none⟩) n n) (w.alloc (.cells (madeCells #[.int .u8 0] n) 5)) := by
  have hi : (Try.prog.info? 5).map (fun i => (i.zero, i.size, i.bytes)) = some (some (.int .u8 0), 1, 1) := by kernel_rfl
  exact run_make_row' (P := Try.prog) 35 5 (.int .u8 0) 1 Try.underlying35 hi rfl .i64 .i64 n (by omega) (by omega) w
theorem zeroB (n i : Nat) : bv (List.replicate n 0) i = .int .u8 0 := by
  unfold bv byt
  rw [List.getD_eq_getElem?_getD, List.getElem?_replicate]
  split <;> rfl
theorem rowB_made (w : World) (n : Nat) : (w.alloc (.cells (madeCells #[.int .u8 0] n) 5)).rowIs w.heap.size 5 n (bv (List.replicate n 0)) :=
  (World.rowIs_made w (.int .u8 0) n 5).congr fun i _ => (zeroB n i).symm
/-- n bytes of which the last i are those of x -/
def numI (x n i : Nat) : List UInt8 := putI (List.replicate n 0) 0 n x i

set_option maxRecDepth 20000 in
set_option maxHeartbeats 1000000 in
theorem numeral_row (w : World) (x n : Nat) (hn : n ≤ 8) (hx : x < 18446744073709551616) :
    Calls Try.prog 66 #[.int .u64 (x : Int), .int .i64 (n : Int)] w fun e w' => e = .returned (.slice (some ⟨w.heap.size, 0, none⟩) n n) ∧ w'.rowIs w.heap.size 5 n (bv (numl x n)) ∧ Below w.heap.size w w' := by
  have hmk := make_u8 n (by omega)
  go_enter Try.func66, Try.ntmps66
  go_wp2
  clear hmk
  refine nameC fun W1 hW1 => ?_
  have HR1 := Lib.hid (hW1.out ▸ rowB_made w n)
  have HB1 : Hid (Below w.heap.size w W1) := Lib.hid (by rw [hW1.out]; exact (Below.refl _ _).alloc (Nat.le_refl _) _)
  obtain ⟨g, hg⟩ : ∃ g, g = w.heap.size := ⟨_, rfl⟩
  rw [← hg] at HR1 ⊢
  have HG := Lib.hid hg
  clear hW1 hg
  go_loopw [0, 6] (fun y i wr => ∃ k : Nat, k ≤ n ∧ y = .int .u64 ((x / 256 ^ k : Nat) : Int) ∧ i = .int .i64 ((n : Int) - 1 - (k : Int)) ∧ Hid (wr.rowIs g 5 n (bv (numI x n k))) ∧ Hid (Below w.heap.size w wr)) (fun _ i _ => (intOf i + 1).toNat)
  case atStart => exact ⟨0, Nat.zero_le _, by simp, by simp, Lib.hid (by unfold numI; rw [putI_zero]; exact HR1.out), HB1⟩
  case round =>
    obtain ⟨k, hk, rfl, rfl, HR, HB⟩ := hrel
    by_cases hlt : k < n
    · obtain ⟨i, hi⟩ : ∃ i : Nat, i + k + 1 = n := ⟨n - 1 - k, by omega⟩
      have hiI : ((n : Int) - 1 - (k : Int)) = (i : Int) := by omega
      rw [hiI]
      have hlen : (numI x n k).length = n := by unfold numI; rw [putI_length (by simp) hk]; simp
      have hc := HR.out.cell (i := i) (by omega)
      have hf := HR.out.frozen i
      have hgl := HR.out.lt
      have hi0 : (0 : Int) ≤ (i : Int) := by omega
      have hin : (i : Int) < (n : Int) := by omega
      obtain ⟨y, hy⟩ : ∃ y, y = x / 256 ^ k := ⟨_, rfl⟩
      have hyl : y < 18446744073709551616 := by rw [hy]; exact Nat.lt_of_le_of_lt (Nat.div_le_self _ _) hx
      rw [← hy]
      have HY := Lib.hid hy
      clear hy
      have hv : (Value.int .u8 ((y : Int) % 256)) = byt (UInt8.ofNat (x / 256 ^ k % 256)) := by
        unfold byt
        rw [toNat_byte, ← HY.out, Int.natCast_emod]
        rfl
      have HV := Lib.hid hv
      clear hv
      go_wp2
      rw [HV.out]
      go_roundw
      case rel =>
        refine ⟨k + 1, by omega, ?_, by congr 1; omega, Lib.hid ?_, Lib.hid (HB.out.setCell (by have := HG.out; show w.heap.size ≤ g; omega) _)⟩
        · rw [Nat.pow_succ, ← Nat.div_div_eq_div_mul, ← HY.out]; rfl
        · unfold numI
          rw [← putI_succ (by simp) hlt, show 0 + n - 1 - k = i by omega]
          exact rowB_set HR.out hlen.symm _
      case measure => simp [intOf]
    · have hk2 : k = n := by omega
      subst hk2
      have hneg : ((k : Int) - 1 - (k : Int)) = -1 := by omega
      rw [hneg]
      go_wp2
      go_ret
      have e : numI x k k = numl x k := by unfold numI; rw [putI_all]; unfold putL; simp
      rw [e] at HR
      rw [HG.out] at HR ⊢
      exact ⟨rfl, HR.out, HB.out⟩
end Go.Proofs.Ytocjhepiooljpaa
