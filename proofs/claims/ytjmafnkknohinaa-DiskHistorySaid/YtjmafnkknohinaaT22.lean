import Derived.Test.YtjmafnkknohinaaT21
import Derived.Test.YtjmafnkknohinaaT5
namespace Go.Proofs.Ytjmafnkknohinaa
open Go.RowKit Go.Shelf

theorem lastD_snoc (ps : List Wr) (x : Int) (b0 : List UInt8) (k : Nat) (h : k < ps.length) : lastD (ps.take (k + 1)) x b0 = if (ps[k]).pos = x then (ps[k]).data else lastD (ps.take k) x b0 := by
  unfold lastD
  rw [List.take_succ_eq_append_getElem h, List.foldl_append]
  rfl

set_option maxHeartbeats 800000 in
theorem refRead_norun (w : World) (M : Nat → Prop) (d : DiskD) (v : Value) (h : IsDisk w M v d) (x : Int) (hr : runsB d = false) : Calls Try.prog 22 #[v, .int .i64 x] w (RetBytesE w M (readD d x)) := by
  have HS := Lib.hid (show readD d x = ([], 340) by simp [readD, hr])
  obtain ⟨sA, sc, pA, pc, rfl, hs1, hs2, hs3, hp1, hp2, hp3⟩ := h.parts
  obtain ⟨W1, hW1⟩ : ∃ W1, W1 = w.alloc (.cells #[.slice sA d.sectors.length sc, .slice pA d.pending.length pc, .int .i64 d.left, .bool d.stopped] 25) := ⟨_, rfl⟩
  have hB1 : Below w.heap.size w W1 := by rw [hW1]; exact (Below.refl w.heap.size w).alloc (Nat.le_refl _) _
  have hz : W1.heap.size = w.heap.size + 1 := by rw [hW1]; simp
  have k0 : W1.heap[w.heap.size]? = some (.cells #[.slice sA d.sectors.length sc, .slice pA d.pending.length pc, .int .i64 d.left, .bool d.stopped] 25 (0, 0)) := by rw [hW1]; exact heap1_0 _ _
  have C := Lib.hid (refCheck_any W1 _ d _ (h.below hB1))
  have HW := Lib.hid hW1
  have HB := Lib.hid hB1
  have HZ := Lib.hid hz
  have HK0 := Lib.hid k0
  clear hB1 h hz k0
  go_enter Try.func22, Try.ntmps22
  go_wp2_with fail
  rw [← HW.out]
  refine C.out.mono ?_
  rintro e w1 ⟨rfl, hb1'⟩
  have KB := Lib.hid ((hb1'.block w.heap.size (by rw [HZ.out]; omega)).trans HK0.out)
  have hsz := hb1'.size
  rw [HZ.out] at hsz
  have HF := Lib.hid (HB.out.trans (hb1'.mono HB.out.size))
  clear hb1' hW1
  obtain ⟨⟨c0, c1, c2, c3⟩, _⟩ := blk4 (Below.refl _ _) KB.out (Nat.lt_succ_self _)
  by_cases ho : okB d = true
  · have hst : d.stopped = true := by simpa [runsB, ho] using hr
    rw [chk_of ho]
    rw [hst] at c3
    clear hr ho hst
    go_wp2_with fail
    go_ret2
    rw [HS.out]
    exact ⟨_, rfl, IsBytes.nil, HF.out⟩

  · rw [chk_not (by simpa using ho)]
    clear hr ho
    go_wp2_with fail
    go_ret2
    rw [HS.out]
    exact ⟨_, rfl, IsBytes.nil, HF.out⟩

set_option maxHeartbeats 800000 in
theorem refRead_nosec (w : World) (M : Nat → Prop) (d : DiskD) (v : Value) (h : IsDisk w M v d) (x : Int) (hr : runsB d = true) (hh : hasB d x = false) : Calls Try.prog 22 #[v, .int .i64 x] w (RetBytesE w M (readD d x)) := by
  have HS := Lib.hid (show readD d x = ([], 340) by simp [readD, hh])
  obtain ⟨sA, sc, pA, pc, rfl, hs1, hs2, hs3, hp1, hp2, hp3⟩ := h.parts
  obtain ⟨W1, hW1⟩ : ∃ W1, W1 = w.alloc (.cells #[.slice sA d.sectors.length sc, .slice pA d.pending.length pc, .int .i64 d.left, .bool d.stopped] 25) := ⟨_, rfl⟩
  have hB1 : Below w.heap.size w W1 := by rw [hW1]; exact (Below.refl w.heap.size w).alloc (Nat.le_refl _) _
  have hz : W1.heap.size = w.heap.size + 1 := by rw [hW1]; simp
  have k0 : W1.heap[w.heap.size]? = some (.cells #[.slice sA d.sectors.length sc, .slice pA d.pending.length pc, .int .i64 d.left, .bool d.stopped] 25 (0, 0)) := by rw [hW1]; exact heap1_0 _ _
  have C := Lib.hid (refCheck_any W1 _ d _ (h.below hB1))
  have HW := Lib.hid hW1
  have HB := Lib.hid hB1
  have HZ := Lib.hid hz
  have HK0 := Lib.hid k0
  clear hB1 h hz k0
  go_enter Try.func22, Try.ntmps22
  go_wp2_with fail
  rw [← HW.out]
  refine C.out.mono ?_
  rintro e w1 ⟨rfl, hb1'⟩
  have KB := Lib.hid ((hb1'.block w.heap.size (by rw [HZ.out]; omega)).trans HK0.out)
  have hsz := hb1'.size
  rw [HZ.out] at hsz
  have HF := Lib.hid (HB.out.trans (hb1'.mono HB.out.size))
  clear hb1' hW1
  obtain ⟨⟨c0, c1, c2, c3⟩, _⟩ := blk4 (Below.refl _ _) KB.out (Nat.lt_succ_self _)
  obtain ⟨hst, g1, g2, g3, _, _, _⟩ := runs_parts hr
  have ho : okB d = true := by simp [runsB] at hr; exact hr.1
  rw [chk_of ho]
  rw [hst] at c3
  clear ho hst hr
  have hx : x < 0 ∨ (0 ≤ x ∧ (d.sectors.length : Int) ≤ x) := by simp [hasB] at hh; omega
  clear hh
  rcases hx with hx | ⟨hx0, hx⟩
  all_goals
    go_wp2_with fail
    go_ret2
    rw [HS.out]
    exact ⟨_, rfl, IsBytes.nil, HF.out⟩

set_option maxHeartbeats 800000 in
theorem refRead_go (w : World) (M : Nat → Prop) (d : DiskD) (v : Value) (h : IsDisk w M v d) (x : Int) (hr : runsB d = true) (hh : hasB d x = true) : Calls Try.prog 22 #[v, .int .i64 x] w (RetBytesE w M (readD d x)) := by
  have HS := Lib.hid (readD_yes hr hh)
  obtain ⟨sA, sc, pA, pc, rfl, hs1, hs2, hs3, hp1, hp2, hp3⟩ := h.parts
  obtain ⟨W1, hW1⟩ : ∃ W1, W1 = w.alloc (.cells #[.slice sA d.sectors.length sc, .slice pA d.pending.length pc, .int .i64 d.left, .bool d.stopped] 25) := ⟨_, rfl⟩
  have hB1 : Below w.heap.size w W1 := by rw [hW1]; exact (Below.refl w.heap.size w).alloc (Nat.le_refl _) _
  have hz : W1.heap.size = w.heap.size + 1 := by rw [hW1]; simp
  have k0 : W1.heap[w.heap.size]? = some (.cells #[.slice sA d.sectors.length sc, .slice pA d.pending.length pc, .int .i64 d.left, .bool d.stopped] 25 (0, 0)) := by rw [hW1]; exact heap1_0 _ _
  have C := Lib.hid (refCheck_any W1 _ d _ (h.below hB1))
  have HW := Lib.hid hW1
  have HB := Lib.hid hB1
  have HZ := Lib.hid hz
  have HK0 := Lib.hid k0
  clear hB1 h hz k0
  go_enter Try.func22, Try.ntmps22
  go_wp2_with fail
  rw [← HW.out]
  refine C.out.mono ?_
  rintro e w1 ⟨rfl, hb1'⟩
  have KB := Lib.hid ((hb1'.block w.heap.size (by rw [HZ.out]; omega)).trans HK0.out)
  have hsz := hb1'.size
  rw [HZ.out] at hsz
  have HF := Lib.hid (HB.out.trans (hb1'.mono HB.out.size))
  clear hb1' hW1
  obtain ⟨⟨c0, c1, c2, c3⟩, _⟩ := blk4 (Below.refl _ _) KB.out (Nat.lt_succ_self _)
  obtain ⟨hst, g1, g2, g3, _, _, _⟩ := runs_parts hr
  have ho : okB d = true := by simp [runsB] at hr; exact hr.1
  rw [chk_of ho]
  rw [hst] at c3
  clear ho hst hr
  have hx : 0 ≤ x ∧ x < (d.sectors.length : Int) := by simpa [hasB] using hh
  clear hh
  obtain ⟨X, hX⟩ : ∃ X : Nat, x = (X : Int) := ⟨x.toNat, by omega⟩
  subst hX
  have hXl : X < d.sectors.length := by omega
  obtain ⟨b, off, bA, bc, rfl, hbl, hck, hbc1, hbc2, hby⟩ := hs3.at_ HF.out hXl
  have HV := Lib.hid (show d.sectors.getD X [] = d.sectors[X] by rw [List.getD_eq_getElem?_getD, List.getElem?_eq_getElem hXl, Option.getD_some])
  rw [Int.toNat_natCast, HV.out] at HS
  have HXl := Lib.hid hXl
  have hx1 : (0 : Int) ≤ (X : Int) := by omega
  have hx2 : (X : Int) < (d.sectors.length : Int) := by omega
  clear hx
  go_wp2_with fail
  go_loop [6, 7] (fun s i => ∃ (k : Nat), k ≤ d.pending.length ∧ i = .int .i64 k ∧ Hid (IsBytes w M s (lastD (d.pending.take k) (X : Int) d.sectors[X]))) (fun _ i => d.pending.length - (intOf i).toNat)
  case atStart => exact ⟨0, Nat.zero_le _, rfl, ⟨bA, bc, rfl, hbc1, hbc2, hby⟩⟩
  case round =>
    obtain ⟨k, hk, rfl, HI⟩ := hrel
    by_cases hlt : k < d.pending.length
    · obtain ⟨b', off', bA', bc', rfl, hbl', hck', hck1', hd1, hd2, hd3⟩ := hp3.at_ HF.out hlt
      have HSn := Lib.hid (lastD_snoc d.pending (X : Int) d.sectors[X] k hlt)
      by_cases hpx : (d.pending[k]).pos = (X : Int)
      · have hb : ((d.pending[k]).pos == (X : Int)) = true := by simp [hpx]
        have HN : Hid (IsBytes w M (.slice bA' (d.pending[k]).data.length bc') (lastD (d.pending.take (k + 1)) (X : Int) d.sectors[X])) := by
          show IsBytes _ _ _ _
          rw [HSn.out, if_pos hpx]; exact ⟨bA', bc', rfl, hd1, hd2, hd3⟩
        clear hpx
        go_wp2_with fail
        go_round
        case rel => exact ⟨k + 1, by omega, by go_num, HN⟩
        case measure => simp [intOf]; omega
      · have hb : ((d.pending[k]).pos == (X : Int)) = false := by simp [hpx]
        have HN : Hid (lastD (d.pending.take (k + 1)) (X : Int) d.sectors[X] = lastD (d.pending.take k) (X : Int) d.sectors[X]) := by
          show _ = _
          rw [HSn.out, if_neg hpx]
        clear hpx
        go_wp2_with fail
        go_round
        case rel => exact ⟨k + 1, by omega, by go_num, by rw [HN.out]; exact HI⟩
        case measure => simp [intOf]; omega
    · obtain rfl : k = d.pending.length := by omega
      go_wp2_with fail
      go_ret2
      rw [HS.out]
      have := HI.out
      rw [List.take_length] at this
      exact ⟨_, rfl, this.below HF.out, HF.out⟩
theorem refRead_any (w : World) (M : Nat → Prop) (d : DiskD) (v : Value) (h : IsDisk w M v d) (x : Int) : Calls Try.prog 22 #[v, .int .i64 x] w (RetBytesE w M (readD d x)) := by
  by_cases hr : runsB d = true
  · by_cases hh : hasB d x = true
    · exact refRead_go w M d v h x hr hh
    · exact refRead_nosec w M d v h x hr (by simpa using hh)
  · exact refRead_norun w M d v h x (by simpa using hr)
end Go.Proofs.Ytjmafnkknohinaa
