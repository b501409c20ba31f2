import Derived.Test.YtocjhepiooljpaaZt
import Derived.Laws.BytesString
namespace Go.Proofs.Ytocjhepiooljpaa
open Go.RowKit Go.Shelf

theorem fold_bytes (bs : List UInt8) (r : ByteArray) : (bs.map fun x => (x.toNat : Int)).foldl (fun r n => r.push (UInt8.ofNat n.toNat)) r = ⟨(r.data.toList ++ bs).toArray⟩ := by
  induction bs generalizing r with
  | nil => simp
  | cons x l ih =>
    rw [List.map_cons, List.foldl_cons, ih]
    simp [ByteArray.push]
theorem conv_bytes {w : World} {M : Nat → Prop} {A : Option Addr} {bs : List UInt8} (c : Nat) (h : BytesC w M A bs) : (convert 35 9 (.slice A bs.length c)).run Try.prog w = .ok (.string ⟨bs.toArray⟩) w := by
  rw [run_convert_bytes_string w 35 9 5 A bs.length c Try.underlying35 Try.underlying5 Try.underlying9]
  cases A with
  | none =>
    have h0 : bs = [] := by
      rcases Nat.eq_zero_or_pos bs.length with h0 | h0
      · exact List.eq_nil_of_length_eq_zero h0
      · obtain ⟨b, off, e, _⟩ := h h0; cases e
    subst h0
    rfl
  | some ad =>
    have hl : (loadCells ad bs.length).run Try.prog w = .ok ((bs.map fun x => (x.toNat : Int)).map (Value.int .u8)).toArray w := by
      have := run_loadCells_list (P := Try.prog) (w := w) ad ((bs.map fun x => (x.toNat : Int)).map (Value.int .u8)) (fun j v hj => by
        have hjl : j < bs.length := by have := (List.getElem?_eq_some_iff.1 hj).1; simpa using this
        obtain ⟨ad', e, hh⟩ := Cells.flat h (by omega) (by omega)
        obtain rfl : ad = ad' := by injection e
        refine hh j v ?_
        have : v = byt bs[j] := by simp [hjl] at hj; exact hj.symm
        rw [this]
        simp [flat, hjl, byt])
      simpa using this
    rw [run_bytesToString w ad bs.length c _ hl, fold_bytes]
    simp

set_option maxHeartbeats 1000000 in
theorem same_any (w : World) (M M' : Nat → Prop) (d : DiskD) (v v' : Value) (h : IsDisk w M v d) (h' : IsDisk w M' v' d) :
    Calls Try.prog 23 #[v, v'] w fun e w' => e = .returned (.bool true) ∧ Below w.heap.size w w' := by
  obtain ⟨sA, sc, pA, pc, rfl, hs1, hs2, hs3, hp1, hp2, hp3⟩ := h.parts
  obtain ⟨tA, tc, qA, qc, rfl, ht1, ht2, ht3, hq1, hq2, hq3⟩ := h'.parts
  obtain ⟨W1, hW1⟩ : ∃ W1, W1 = (w.alloc (.cells #[.slice sA d.sectors.length sc, .slice pA d.pending.length pc, .int .i64 d.left, .bool d.stopped] 25)).alloc (.cells #[.slice tA d.sectors.length tc, .slice qA d.pending.length qc, .int .i64 d.left, .bool d.stopped] 25) := ⟨_, rfl⟩
  have hB1 : Below w.heap.size w W1 := by rw [hW1]; exact ((Below.refl w.heap.size w).alloc (Nat.le_refl _) _).alloc (by simp) _
  have HW := Lib.hid hW1
  have HB := Lib.hid hB1
  clear hB1 h h'
  have e1 : (d.stopped != d.stopped) = false := by simp
  have e2 : (d.left != d.left) = false := by simp
  have e3 : ((d.sectors.length : Int) != (d.sectors.length : Int)) = false := by simp
  have e4 : ((d.pending.length : Int) != (d.pending.length : Int)) = false := by simp
  go_enter Try.func23, Try.ntmps23
  go_wp2
  rw [← HW.out]
  obtain ⟨⟨c0, c1, _, _⟩, _⟩ := blk4 (Below.refl (w.heap.size + 2) W1) (by rw [HW.out]; exact heap2_0 _ _ _) (by omega)
  obtain ⟨⟨d0, d1, _, _⟩, _⟩ := blk4 (Below.refl (w.heap.size + 2) W1) (by rw [HW.out]; exact heap2_1 _ _ _) (by omega)
  clear hW1 e1 e2 e3 e4
  go_loopw [5] (fun i wr => ∃ k m : Nat, k ≤ d.sectors.length ∧ i = .int .i64 k ∧ wr = W1.drewN m) (fun i _ => d.sectors.length - (intOf i).toNat)
  case atStart => exact ⟨0, 0, Nat.zero_le _, rfl, rfl⟩
  case round =>
    obtain ⟨k, m, hk, rfl, rfl⟩ := hrel
    by_cases hlt : k < d.sectors.length
    · obtain ⟨b, off, bA, bc, rfl, hbl, hck, hb1, hb2, hb3⟩ := hs3.at_ HB.out hlt
      obtain ⟨b', off', bA', bc', rfl, hbl', hck', hb1', hb2', hb3'⟩ := ht3.at_ HB.out hlt
      have hcv := fun nq => conv_bytes bc (w := W1.drewN nq) (hb3.keep (fun _ _ hp => HB.out.cell hp))
      have hcv' := fun nq => conv_bytes bc' (w := W1.drewN nq) (hb3'.keep (fun _ _ hp => HB.out.cell hp))
      have hk0 : (0 : Int) ≤ (k : Int) := by omega
      have hk1 : (k : Int) < (d.sectors.length : Int) := by omega
      go_wp2
      go_quiet (fail)
      go_wp2
      go_roundw
      case rel => exact ⟨k + 1, _, by omega, by go_num, rfl⟩
      case measure => simp [intOf]; omega
    · go_wp2
      go_loopw [6] (fun i wr => ∃ k m : Nat, k ≤ d.pending.length ∧ i = .int .i64 k ∧ wr = W1.drewN m) (fun i _ => d.pending.length - (intOf i).toNat)
      case atStart => exact ⟨0, m, Nat.zero_le _, rfl, rfl⟩
      case round =>
        obtain ⟨k2, m2, hk2, rfl, rfl⟩ := hrel
        by_cases hlt2 : k2 < d.pending.length
        · obtain ⟨b, off, bA, bc, rfl, hbl, hck, hck1, hb1, hb2, hb3⟩ := hp3.at_ HB.out hlt2
          obtain ⟨b', off', bA', bc', rfl, hbl', hck', hck1', hb1', hb2', hb3'⟩ := hq3.at_ HB.out hlt2
          have hcv := fun nq => conv_bytes bc (w := W1.drewN nq) (hb3.keep (fun _ _ hp => HB.out.cell hp))
          have hcv' := fun nq => conv_bytes bc' (w := W1.drewN nq) (hb3'.keep (fun _ _ hp => HB.out.cell hp))
          have hk0 : (0 : Int) ≤ (k2 : Int) := by omega
          have hk1 : (k2 : Int) < (d.pending.length : Int) := by omega
          have ep : ((d.pending[k2]).pos != (d.pending[k2]).pos) = false := by simp
          go_wp2
          go_quiet (fail)
          go_wp2
          go_roundw
          case rel => exact ⟨k2 + 1, _, by omega, by go_num, rfl⟩
          case measure => simp [intOf]; omega
        · go_wp2
          go_ret
          exact ⟨rfl, below_drewN HB.out _⟩
end Go.Proofs.Ytocjhepiooljpaa
