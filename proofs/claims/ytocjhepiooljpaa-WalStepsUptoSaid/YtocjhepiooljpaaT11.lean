import Derived.Test.YtocjhepiooljpaaT10
namespace Go.Proofs.Ytocjhepiooljpaa
open Go.RowKit Go.Shelf Go.Deep
set_option maxHeartbeats 800000 in
theorem write_full (w : World) (M : Nat → Prop) (d : DiskD) (v : Value) (h : IsDisk w M v d) (x : Int) (b : List UInt8) (bA : Option Addr) (bc : Nat) (hr : runsB d = true) (hh : hasB d x = true) (hb1 : b.length ≤ 128) (hp4 : d.pending.length = 4096) :
    Calls Try.prog 26 #[v, .int .i64 x, .slice bA b.length bc] w (RetDiskE w (New M w) (writeD d x b)) := by
  have HS := Lib.hid (show writeD d x b = (zeroD, 2) by simp only [writeD, hr, hh, Bool.and_self, if_true, if_pos hb1, if_pos hp4])
  replace h := h.mono (M' := fun b => M b ∧ b < w.heap.size) (fun b hb hM => ⟨hM, hb⟩)
  obtain ⟨sA, sc, pA, pc, rfl, hs1, hs2, hs3, hp1, hp2, hp3⟩ := h.parts
  obtain ⟨W1, hW1⟩ : ∃ W1, W1 = (w.alloc (.cells #[.slice sA d.sectors.length sc, .slice pA d.pending.length pc, .int .i64 d.left, .bool d.stopped] 25)).alloc (.cells #[.slice none 0 0, .slice none 0 0, .int .i64 0, .bool false] 25) := ⟨_, rfl⟩
  have hB1 : Below w.heap.size w W1 := by rw [hW1]; exact ((Below.refl w.heap.size w).alloc (Nat.le_refl _) _).alloc (by simp) _
  have hz : W1.heap.size = w.heap.size + 2 := by rw [hW1]; simp
  have k0 : W1.heap[w.heap.size]? = some (.cells #[.slice sA d.sectors.length sc, .slice pA d.pending.length pc, .int .i64 d.left, .bool d.stopped] 25 (0, 0)) := by rw [hW1]; exact heap2_0 _ _ _
  have k1 : W1.heap[w.heap.size + 1]? = some (.cells #[.slice none 0 0, .slice none 0 0, .int .i64 0, .bool false] 25 (0, 0)) := by rw [hW1]; exact heap2_1 _ _ _
  have C := Lib.hid (runs_any W1 _ d _ (h.below hB1))
  have C2 := Lib.hid (fun (W : World) (hW : Below w.heap.size w W) => has_any W _ d _ (h.below hW) x)
  obtain ⟨hst, g1, g2, g3, _, _, _⟩ := runs_parts hr
  rw [hr] at C
  rw [hh] at C2
  have HW := Lib.hid hW1
  have HB := Lib.hid hB1
  have HZ := Lib.hid hz
  have HK0 := Lib.hid k0
  have HK1 := Lib.hid k1
  clear hB1 h hz k0 k1 hst hr hh
  have h4 : ((d.pending.length : Int) == 4096) = true := by rw [beq_iff_eq]; omega
  clear hp4
  have hmk := make128
  go_enter Try.func26, Try.ntmps26
  go_wp2_with fail
  rw [← HW.out]
  refine C.out.mono ?_
  rintro e w1 ⟨rfl, hb1'⟩
  have KB := Lib.hid ((hb1'.block w.heap.size (by rw [HZ.out]; omega)).trans HK0.out)
  have KR := Lib.hid ((hb1'.block (w.heap.size + 1) (by rw [HZ.out]; omega)).trans HK1.out)
  have hsz := hb1'.size
  rw [HZ.out] at hsz
  have HF := Lib.hid (HB.out.trans (hb1'.mono HB.out.size))
  clear hb1'
  obtain ⟨⟨c0, c1, c2, c3⟩, _⟩ := blk4 (Below.refl _ _) KB.out (Nat.lt_succ_self _)
  go_wp2_with fail
  refine (C2.out w1 HF.out).mono ?_
  rintro e w2 ⟨rfl, hb2⟩
  have KB2 := Lib.hid ((hb2.block w.heap.size (by omega)).trans KB.out)
  have KR2 := Lib.hid ((hb2.block (w.heap.size + 1) (by omega)).trans KR.out)
  have hsz2 := hb2.size
  have HF2 := Lib.hid (HF.out.trans (hb2.mono HF.out.size))
  clear hb2 c0 c1 c2 c3
  obtain ⟨⟨c0, c1, c2, c3⟩, _⟩ := blk4 (Below.refl _ _) KB2.out (Nat.lt_succ_self _)
  have hb8 : ¬ (128 : Int) < (b.length : Int) := by omega
  obtain ⟨⟨r0, r1, r2, r3⟩, ⟨q0, q1, q2, q3⟩⟩ := blk4 (Below.refl _ _) KR2.out (Nat.lt_succ_self _)
  go_wp2_with fail
  refine bodyPost_ret (v := .tuple #[.agg #[.slice none 0 0, .slice none 0 0, .int .i64 0, .bool false], .int .i64 2]) (by simp [results, Try.results26, go_sem, r0, r1, r2, r3]) rfl (RetDiskE.mk IsDisk.zero ?_ HS.out)
  refine Below.setCell (Below.setCell (Below.setCell (Below.setCell HF2.out ?_ _) ?_ _) ?_ _) ?_ _ <;> simp
set_option maxHeartbeats 800000 in
theorem write_long (w : World) (M : Nat → Prop) (d : DiskD) (v : Value) (h : IsDisk w M v d) (x : Int) (b : List UInt8) (bA : Option Addr) (bc : Nat) (hr : runsB d = true) (hh : hasB d x = true) (hb1 : 128 < b.length) (hbl : b.length ≤ 9223372036854775807) :
    Calls Try.prog 26 #[v, .int .i64 x, .slice bA b.length bc] w (RetDiskE w (New M w) (writeD d x b)) := by
  have HS := Lib.hid (show writeD d x b = (zeroD, 1) by simp only [writeD, hr, hh, Bool.and_self, if_true, if_neg (show ¬ b.length ≤ 128 by omega)])
  replace h := h.mono (M' := fun b => M b ∧ b < w.heap.size) (fun b hb hM => ⟨hM, hb⟩)
  obtain ⟨sA, sc, pA, pc, rfl, hs1, hs2, hs3, hp1, hp2, hp3⟩ := h.parts
  obtain ⟨W1, hW1⟩ : ∃ W1, W1 = (w.alloc (.cells #[.slice sA d.sectors.length sc, .slice pA d.pending.length pc, .int .i64 d.left, .bool d.stopped] 25)).alloc (.cells #[.slice none 0 0, .slice none 0 0, .int .i64 0, .bool false] 25) := ⟨_, rfl⟩
  have hB1 : Below w.heap.size w W1 := by rw [hW1]; exact ((Below.refl w.heap.size w).alloc (Nat.le_refl _) _).alloc (by simp) _
  have hz : W1.heap.size = w.heap.size + 2 := by rw [hW1]; simp
  have k0 : W1.heap[w.heap.size]? = some (.cells #[.slice sA d.sectors.length sc, .slice pA d.pending.length pc, .int .i64 d.left, .bool d.stopped] 25 (0, 0)) := by rw [hW1]; exact heap2_0 _ _ _
  have k1 : W1.heap[w.heap.size + 1]? = some (.cells #[.slice none 0 0, .slice none 0 0, .int .i64 0, .bool false] 25 (0, 0)) := by rw [hW1]; exact heap2_1 _ _ _
  have C := Lib.hid (runs_any W1 _ d _ (h.below hB1))
  have C2 := Lib.hid (fun (W : World) (hW : Below w.heap.size w W) => has_any W _ d _ (h.below hW) x)
  obtain ⟨hst, g1, g2, g3, _, _, _⟩ := runs_parts hr
  rw [hr] at C
  rw [hh] at C2
  have HW := Lib.hid hW1
  have HB := Lib.hid hB1
  have HZ := Lib.hid hz
  have HK0 := Lib.hid k0
  have HK1 := Lib.hid k1
  clear hB1 h hz k0 k1 hst hr hh
  have hmk := make128
  go_enter Try.func26, Try.ntmps26
  go_wp2_with fail
  rw [← HW.out]
  refine C.out.mono ?_
  rintro e w1 ⟨rfl, hb1'⟩
  have KB := Lib.hid ((hb1'.block w.heap.size (by rw [HZ.out]; omega)).trans HK0.out)
  have KR := Lib.hid ((hb1'.block (w.heap.size + 1) (by rw [HZ.out]; omega)).trans HK1.out)
  have hsz := hb1'.size
  rw [HZ.out] at hsz
  have HF := Lib.hid (HB.out.trans (hb1'.mono HB.out.size))
  clear hb1'
  obtain ⟨⟨c0, c1, c2, c3⟩, _⟩ := blk4 (Below.refl _ _) KB.out (Nat.lt_succ_self _)
  go_wp2_with fail
  refine (C2.out w1 HF.out).mono ?_
  rintro e w2 ⟨rfl, hb2⟩
  have KB2 := Lib.hid ((hb2.block w.heap.size (by omega)).trans KB.out)
  have KR2 := Lib.hid ((hb2.block (w.heap.size + 1) (by omega)).trans KR.out)
  have hsz2 := hb2.size
  have HF2 := Lib.hid (HF.out.trans (hb2.mono HF.out.size))
  clear hb2 c0 c1 c2 c3
  obtain ⟨⟨c0, c1, c2, c3⟩, _⟩ := blk4 (Below.refl _ _) KB2.out (Nat.lt_succ_self _)
  have hb8 : (128 : Int) < (b.length : Int) := by omega
  obtain ⟨⟨r0, r1, r2, r3⟩, ⟨q0, q1, q2, q3⟩⟩ := blk4 (Below.refl _ _) KR2.out (Nat.lt_succ_self _)
  go_wp2_with fail
  refine bodyPost_ret (v := .tuple #[.agg #[.slice none 0 0, .slice none 0 0, .int .i64 0, .bool false], .int .i64 1]) (by simp [results, Try.results26, go_sem, r0, r1, r2, r3]) rfl (RetDiskE.mk IsDisk.zero ?_ HS.out)
  refine Below.setCell (Below.setCell (Below.setCell (Below.setCell HF2.out ?_ _) ?_ _) ?_ _) ?_ _ <;> simp
set_option maxHeartbeats 800000 in
theorem write_nosec (w : World) (M : Nat → Prop) (d : DiskD) (v : Value) (h : IsDisk w M v d) (x : Int) (b : List UInt8) (bA : Option Addr) (bc : Nat) (hr : runsB d = true) (hh : hasB d x = false) :
    Calls Try.prog 26 #[v, .int .i64 x, .slice bA b.length bc] w (RetDiskE w (New M w) (writeD d x b)) := by
  have HS := Lib.hid (show writeD d x b = (zeroD, 340) by simp [writeD, hr, hh])
  replace h := h.mono (M' := fun b => M b ∧ b < w.heap.size) (fun b hb hM => ⟨hM, hb⟩)
  obtain ⟨sA, sc, pA, pc, rfl, hs1, hs2, hs3, hp1, hp2, hp3⟩ := h.parts
  obtain ⟨W1, hW1⟩ : ∃ W1, W1 = (w.alloc (.cells #[.slice sA d.sectors.length sc, .slice pA d.pending.length pc, .int .i64 d.left, .bool d.stopped] 25)).alloc (.cells #[.slice none 0 0, .slice none 0 0, .int .i64 0, .bool false] 25) := ⟨_, rfl⟩
  have hB1 : Below w.heap.size w W1 := by rw [hW1]; exact ((Below.refl w.heap.size w).alloc (Nat.le_refl _) _).alloc (by simp) _
  have hz : W1.heap.size = w.heap.size + 2 := by rw [hW1]; simp
  have k0 : W1.heap[w.heap.size]? = some (.cells #[.slice sA d.sectors.length sc, .slice pA d.pending.length pc, .int .i64 d.left, .bool d.stopped] 25 (0, 0)) := by rw [hW1]; exact heap2_0 _ _ _
  have k1 : W1.heap[w.heap.size + 1]? = some (.cells #[.slice none 0 0, .slice none 0 0, .int .i64 0, .bool false] 25 (0, 0)) := by rw [hW1]; exact heap2_1 _ _ _
  have C := Lib.hid (runs_any W1 _ d _ (h.below hB1))
  have C2 := Lib.hid (fun (W : World) (hW : Below w.heap.size w W) => has_any W _ d _ (h.below hW) x)
  obtain ⟨hst, g1, g2, g3, _, _, _⟩ := runs_parts hr
  rw [hr] at C
  rw [hh] at C2
  have HW := Lib.hid hW1
  have HB := Lib.hid hB1
  have HZ := Lib.hid hz
  have HK0 := Lib.hid k0
  have HK1 := Lib.hid k1
  clear hB1 h hz k0 k1 hst hr hh
  have hmk := make128
  go_enter Try.func26, Try.ntmps26
  go_wp2_with fail
  rw [← HW.out]
  refine C.out.mono ?_
  rintro e w1 ⟨rfl, hb1'⟩
  have KB := Lib.hid ((hb1'.block w.heap.size (by rw [HZ.out]; omega)).trans HK0.out)
  have KR := Lib.hid ((hb1'.block (w.heap.size + 1) (by rw [HZ.out]; omega)).trans HK1.out)
  have hsz := hb1'.size
  rw [HZ.out] at hsz
  have HF := Lib.hid (HB.out.trans (hb1'.mono HB.out.size))
  clear hb1'
  obtain ⟨⟨c0, c1, c2, c3⟩, _⟩ := blk4 (Below.refl _ _) KB.out (Nat.lt_succ_self _)
  go_wp2_with fail
  refine (C2.out w1 HF.out).mono ?_
  rintro e w2 ⟨rfl, hb2⟩
  have KB2 := Lib.hid ((hb2.block w.heap.size (by omega)).trans KB.out)
  have KR2 := Lib.hid ((hb2.block (w.heap.size + 1) (by omega)).trans KR.out)
  have hsz2 := hb2.size
  have HF2 := Lib.hid (HF.out.trans (hb2.mono HF.out.size))
  clear hb2 c0 c1 c2 c3
  obtain ⟨⟨c0, c1, c2, c3⟩, _⟩ := blk4 (Below.refl _ _) KB2.out (Nat.lt_succ_self _)
  obtain ⟨⟨r0, r1, r2, r3⟩, ⟨q0, q1, q2, q3⟩⟩ := blk4 (Below.refl _ _) KR2.out (Nat.lt_succ_self _)
  go_wp2_with fail
  refine bodyPost_ret (v := .tuple #[.agg #[.slice none 0 0, .slice none 0 0, .int .i64 0, .bool false], .int .i64 340]) (by simp [results, Try.results26, go_sem, r0, r1, r2, r3]) rfl (RetDiskE.mk IsDisk.zero ?_ HS.out)
  refine Below.setCell (Below.setCell (Below.setCell (Below.setCell HF2.out ?_ _) ?_ _) ?_ _) ?_ _ <;> simp
set_option maxHeartbeats 800000 in
theorem write_norun (w : World) (M : Nat → Prop) (d : DiskD) (v : Value) (h : IsDisk w M v d) (x : Int) (b : List UInt8) (bA : Option Addr) (bc : Nat) (hr : runsB d = false) :
    Calls Try.prog 26 #[v, .int .i64 x, .slice bA b.length bc] w (RetDiskE w (New M w) (writeD d x b)) := by
  have HS := Lib.hid (show writeD d x b = (zeroD, 340) by simp [writeD, hr])
  replace h := h.mono (M' := fun b => M b ∧ b < w.heap.size) (fun b hb hM => ⟨hM, hb⟩)
  obtain ⟨sA, sc, pA, pc, rfl, hs1, hs2, hs3, hp1, hp2, hp3⟩ := h.parts
  obtain ⟨W1, hW1⟩ : ∃ W1, W1 = (w.alloc (.cells #[.slice sA d.sectors.length sc, .slice pA d.pending.length pc, .int .i64 d.left, .bool d.stopped] 25)).alloc (.cells #[.slice none 0 0, .slice none 0 0, .int .i64 0, .bool false] 25) := ⟨_, rfl⟩
  have hB1 : Below w.heap.size w W1 := by rw [hW1]; exact ((Below.refl w.heap.size w).alloc (Nat.le_refl _) _).alloc (by simp) _
  have hz : W1.heap.size = w.heap.size + 2 := by rw [hW1]; simp
  have k0 : W1.heap[w.heap.size]? = some (.cells #[.slice sA d.sectors.length sc, .slice pA d.pending.length pc, .int .i64 d.left, .bool d.stopped] 25 (0, 0)) := by rw [hW1]; exact heap2_0 _ _ _
  have k1 : W1.heap[w.heap.size + 1]? = some (.cells #[.slice none 0 0, .slice none 0 0, .int .i64 0, .bool false] 25 (0, 0)) := by rw [hW1]; exact heap2_1 _ _ _
  have C := Lib.hid (runs_any W1 _ d _ (h.below hB1))
  have C2 := Lib.hid (fun (W : World) (hW : Below w.heap.size w W) => has_any W _ d _ (h.below hW) x)
  rw [hr] at C
  have HW := Lib.hid hW1
  have HB := Lib.hid hB1
  have HZ := Lib.hid hz
  have HK0 := Lib.hid k0
  have HK1 := Lib.hid k1
  clear hB1 h hz k0 k1 hr
  have hmk := make128
  go_enter Try.func26, Try.ntmps26
  go_wp2_with fail
  rw [← HW.out]
  refine C.out.mono ?_
  rintro e w1 ⟨rfl, hb1'⟩
  have KB := Lib.hid ((hb1'.block w.heap.size (by rw [HZ.out]; omega)).trans HK0.out)
  have KR := Lib.hid ((hb1'.block (w.heap.size + 1) (by rw [HZ.out]; omega)).trans HK1.out)
  have hsz := hb1'.size
  rw [HZ.out] at hsz
  have HF := Lib.hid (HB.out.trans (hb1'.mono HB.out.size))
  clear hb1'
  obtain ⟨⟨r0, r1, r2, r3⟩, ⟨q0, q1, q2, q3⟩⟩ := blk4 (Below.refl _ _) KR.out (Nat.lt_succ_self _)
  go_wp2_with fail
  refine bodyPost_ret (v := .tuple #[.agg #[.slice none 0 0, .slice none 0 0, .int .i64 0, .bool false], .int .i64 340]) (by simp [results, Try.results26, go_sem, r0, r1, r2, r3]) rfl (RetDiskE.mk IsDisk.zero ?_ HS.out)
  refine Below.setCell (Below.setCell (Below.setCell (Below.setCell HF.out ?_ _) ?_ _) ?_ _) ?_ _ <;> simp
theorem write_any (w : World) (M : Nat → Prop) (d : DiskD) (v : Value) (h : IsDisk w M v d) (x : Int) (b : List UInt8) (bA : Option Addr) (bc : Nat) (hb : BytesC w M bA b) (hbl : b.length ≤ 9223372036854775807) : Calls Try.prog 26 #[v, .int .i64 x, .slice bA b.length bc] w (RetDiskE w (New M w) (writeD d x b)) := by
  by_cases hr : runsB d = true
  · by_cases hh : hasB d x = true
    · by_cases hb1 : b.length ≤ 128
      · by_cases hp : d.pending.length = 4096
        · exact write_full w M d v h x b bA bc hr hh hb1 hp
        · exact write_go w M d v h x b bA bc hb hr hh hb1 hp
      · exact write_long w M d v h x b bA bc hr hh (by omega) hbl
    · exact write_nosec w M d v h x b bA bc hr (by simpa using hh)
  · exact write_norun w M d v h x b bA bc (by simpa using hr)
end Go.Proofs.Ytocjhepiooljpaa
