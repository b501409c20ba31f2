import Derived.Test.YtjmafnkknohinaaT3
import Derived.Test.YtjmafnkknohinaaT1
namespace Go.Proofs.Ytjmafnkknohinaa
open Go.RowKit Go.Shelf

def zeroD : DiskD := ⟨[], [], 0, false⟩
def runsB (d : DiskD) : Bool := okB d && !d.stopped
def hasB (d : DiskD) (at_ : Int) : Bool := decide (0 ≤ at_) && decide (at_ < d.sectors.length)
def restartD (d : DiskD) : DiskD := ⟨d.sectors, [], -1, false⟩
def stopD (d : DiskD) (left : Int) : DiskD × Int := if runsB d then (if 0 ≤ left ∧ left ≤ 65536 then (⟨d.sectors, d.pending, left, d.stopped⟩, 0) else (zeroD, 1)) else (zeroD, 340)

def RetDisk (w : World) (M : Nat → Prop) (d : DiskD) (e : Ending) (w' : World) : Prop := ∃ v, e = .returned v ∧ IsDisk w' M v d ∧ Below w.heap.size w w'
def RetDiskE (w : World) (M : Nat → Prop) (r : DiskD × Int) (e : Ending) (w' : World) : Prop := ∃ v, e = .returned (.tuple #[v, .int .i64 r.2]) ∧ IsDisk w' M v r.1 ∧ Below w.heap.size w w'

theorem chk_of {d : DiskD} (h : okB d = true) : chk d = 0 := by simp [chk, h]
theorem chk_not {d : DiskD} (h : okB d = false) : chk d = 340 := by simp [chk, h]
theorem IsWrs.nil {w : World} {M : Nat → Prop} : IsWrs w M (.slice none 0 0) [] := ⟨none, 0, rfl, Nat.le_refl _, by omega, fun _ => .nilIface, fun h => absurd h (by simp), fun i h => absurd h (by simp)⟩
theorem IsMat.nil {w : World} {M : Nat → Prop} : IsMat w M (.slice none 0 0) [] := ⟨none, 0, rfl, Nat.le_refl _, by omega, fun _ => .nilIface, fun h => absurd h (by simp), fun i h => absurd h (by simp)⟩
theorem IsDisk.zero {w : World} {M : Nat → Prop} : IsDisk w M (.agg #[.slice none 0 0, .slice none 0 0, .int .i64 0, .bool false]) zeroD := ⟨_, _, rfl, IsMat.nil, IsWrs.nil⟩

set_option maxHeartbeats 400000 in
theorem runs_any (w : World) (M : Nat → Prop) (d : DiskD) (v : Value) (h : IsDisk w M v d) :
    Calls Try.prog 34 #[v] w fun e w' => e = .returned (.bool (runsB d)) ∧ Below w.heap.size w w' := by
  obtain ⟨sA, sc, pA, pc, rfl, _⟩ := h.parts
  obtain ⟨W1, hW1⟩ : ∃ W1, W1 = w.alloc (.cells #[.slice sA d.sectors.length sc, .slice pA d.pending.length pc, .int .i64 d.left, .bool d.stopped] 25) := ⟨_, rfl⟩
  have hB1 : Below w.heap.size w W1 := by rw [hW1]; exact (Below.refl w.heap.size w).alloc (Nat.le_refl _) _
  have C := Lib.hid (check_any W1 M d _ (h.below hB1))
  have HW := Lib.hid hW1
  have HB := Lib.hid hB1
  clear hB1 h
  go_enter Try.func34, Try.ntmps34
  go_wp2_with fail
  rw [← HW.out]
  refine C.out.mono ?_
  rintro e w1 ⟨rfl, hb1⟩
  have c3 := hb1.cell (p := ⟨w.heap.size, 3, none⟩) (by rw [HW.out]; simp)
  rw [HW.out] at c3
  simp at c3
  have HF := Lib.hid (HB.out.trans (hb1.mono HB.out.size))
  clear hb1
  by_cases ho : okB d = true
  · rw [chk_of ho]
    have HR := Lib.hid (show runsB d = !d.stopped by simp [runsB, ho])
    clear ho
    go_wp2_with fail
    go_ret
    exact ⟨ret_bool HR.out.symm, HF.out⟩
  · have ho' : okB d = false := by simpa using ho
    rw [chk_not ho']
    have HR := Lib.hid (show runsB d = false by simp [runsB, ho'])
    clear ho ho'
    go_wp2_with fail
    go_ret
    exact ⟨ret_bool HR.out.symm, HF.out⟩

set_option maxHeartbeats 400000 in
theorem has_any (w : World) (M : Nat → Prop) (d : DiskD) (v : Value) (h : IsDisk w M v d) (x : Int) :
    Calls Try.prog 35 #[v, .int .i64 x] w fun e w' => e = .returned (.bool (hasB d x)) ∧ Below w.heap.size w w' := by
  obtain ⟨sA, sc, pA, pc, rfl, _⟩ := h.parts
  clear h
  by_cases hx : 0 ≤ x
  · go_enter Try.func35, Try.ntmps35
    go_wp2_with fail
    go_ret
    exact ⟨ret_bool (by simp [hasB, hx]), (Below.refl w.heap.size w).alloc (Nat.le_refl _) _⟩
  · go_enter Try.func35, Try.ntmps35
    go_wp2_with fail
    go_ret
    exact ⟨ret_bool (by simp [hasB]; omega), (Below.refl w.heap.size w).alloc (Nat.le_refl _) _⟩

theorem RetDisk.mk {w w' : World} {M : Nat → Prop} {v : Value} {d : DiskD} (hd : IsDisk w M v d) (hb : Below w.heap.size w w') : RetDisk w M d (.returned v) w' := ⟨v, rfl, hd.below hb, hb⟩
theorem RetDiskE.mk {w w' : World} {M : Nat → Prop} {v : Value} {r : DiskD × Int} {d : DiskD} {n : Int} (hd : IsDisk w M v d) (hb : Below w.heap.size w w') (hr : r = (d, n)) : RetDiskE w M r (.returned (.tuple #[v, .int .i64 n])) w' := by
  subst hr; exact ⟨v, rfl, hd.below hb, hb⟩
theorem RetDiskE.mk' {w w' : World} {M : Nat → Prop} {v : Value} {r : DiskD × Int} {d : DiskD} {n : Int} (hd : IsDisk w' M v d) (hb : Below w.heap.size w w') (hr : r = (d, n)) : RetDiskE w M r (.returned (.tuple #[v, .int .i64 n])) w' := by
  subst hr; exact ⟨v, rfl, hd, hb⟩
theorem heap1_0 (w : World) (o : Obj) : (w.alloc o).heap[w.heap.size]? = some o := heap_alloc_new w o
theorem heap2_0 (w : World) (o1 o2 : Obj) : ((w.alloc o1).alloc o2).heap[w.heap.size]? = some o1 := (Below.heap_alloc (w.alloc o1) o2 w.heap.size (by simp)).trans (heap_alloc_new w o1)
theorem heap2_1 (w : World) (o1 o2 : Obj) : ((w.alloc o1).alloc o2).heap[w.heap.size + 1]? = some o2 := by
  have := heap_alloc_new (w.alloc o1) o2
  rwa [World.size_alloc] at this
theorem blk4 {W w1 : World} {B g : Nat} {a b c d : Value} {t : TypeId} (hb : Below B W w1) (hW : W.heap[g]? = some (.cells #[a, b, c, d] t (0, 0))) (hg : g < B) :
    (w1.cell? ⟨g, 0, none⟩ = some a ∧ w1.cell? ⟨g, 1, none⟩ = some b ∧ w1.cell? ⟨g, 2, none⟩ = some c ∧ w1.cell? ⟨g, 3, none⟩ = some d) ∧
    (w1.frozen? ⟨g, 0, none⟩ = false ∧ w1.frozen? ⟨g, 1, none⟩ = false ∧ w1.frozen? ⟨g, 2, none⟩ = false ∧ w1.frozen? ⟨g, 3, none⟩ = false) := by
  have h := (hb.block g hg).trans hW
  simp [World.cell?, World.frozen?, h]

set_option maxHeartbeats 400000 in
theorem restart_any (w : World) (M : Nat → Prop) (d : DiskD) (v : Value) (h : IsDisk w M v d) :
    Calls Try.prog 17 #[v] w (RetDisk w M (restartD d)) := by
  obtain ⟨sA, sc, pA, pc, rfl, hs1, hs2, hs3, _⟩ := h.parts
  clear h
  go_enter Try.func17, Try.ntmps17
  go_wp2_with fail
  exact bodyPost_ret (v := .agg #[.slice sA d.sectors.length sc, .slice none 0 0, .int .i64 (-1), .bool false]) (by simp [results, Try.results17, go_sem]) rfl (RetDisk.mk ⟨_, _, rfl, ⟨sA, sc, rfl, hs1, hs2, hs3⟩, IsWrs.nil⟩
    (((Below.refl w.heap.size w).alloc (Nat.le_refl _) _).alloc (by simp) _))

set_option maxHeartbeats 400000 in
theorem refRestart_any (w : World) (M : Nat → Prop) (d : DiskD) (v : Value) (h : IsDisk w M v d) :
    Calls Try.prog 18 #[v] w (RetDisk w M (restartD d)) := by
  obtain ⟨sA, sc, pA, pc, rfl, hs1, hs2, hs3, _⟩ := h.parts
  clear h
  go_enter Try.func18, Try.ntmps18
  go_wp2_with fail
  exact bodyPost_ret (v := .agg #[.slice sA d.sectors.length sc, .slice none 0 0, .int .i64 (-1), .bool false]) (by simp [results, Try.results18, go_sem]) rfl (RetDisk.mk ⟨_, _, rfl, ⟨sA, sc, rfl, hs1, hs2, hs3⟩, IsWrs.nil⟩
    (((Below.refl w.heap.size w).alloc (Nat.le_refl _) _).alloc (by simp) _))

set_option maxHeartbeats 400000 in
theorem stop_any (w : World) (M : Nat → Prop) (d : DiskD) (v : Value) (h : IsDisk w M v d) (x : Int) :
    Calls Try.prog 25 #[v, .int .i64 x] w (RetDiskE w M (stopD d x)) := by
  obtain ⟨sA, sc, pA, pc, rfl, hs1, hs2, hs3, hp1, hp2, hp3⟩ := h.parts
  obtain ⟨W1, hW1⟩ : ∃ W1, W1 = (w.alloc (.cells #[.slice sA d.sectors.length sc, .slice pA d.pending.length pc, .int .i64 d.left, .bool d.stopped] 25)).alloc (.cells #[.slice none 0 0, .slice none 0 0, .int .i64 0, .bool false] 25) := ⟨_, rfl⟩
  have hB1 : Below w.heap.size w W1 := by rw [hW1]; exact ((Below.refl w.heap.size w).alloc (Nat.le_refl _) _).alloc (by simp) _
  have hz : W1.heap.size = w.heap.size + 2 := by rw [hW1]; simp
  have k0 : W1.heap[w.heap.size]? = some (.cells #[.slice sA d.sectors.length sc, .slice pA d.pending.length pc, .int .i64 d.left, .bool d.stopped] 25 (0, 0)) := by rw [hW1]; exact heap2_0 _ _ _
  have k1 : W1.heap[w.heap.size + 1]? = some (.cells #[.slice none 0 0, .slice none 0 0, .int .i64 0, .bool false] 25 (0, 0)) := by rw [hW1]; exact heap2_1 _ _ _
  have C := Lib.hid (runs_any W1 M d _ (h.below hB1))
  have HW := Lib.hid hW1
  have HB := Lib.hid hB1
  have HZ := Lib.hid hz
  have HK0 := Lib.hid k0
  have HK1 := Lib.hid k1
  clear hB1 h hz k0 k1
  go_enter Try.func25, Try.ntmps25
  go_wp2_with fail
  rw [← HW.out]
  refine C.out.mono ?_
  rintro e w1 ⟨rfl, hb1⟩
  obtain ⟨⟨c0, c1, c2, c3⟩, ⟨f0, f1, f2, f3⟩⟩ := blk4 hb1 HK0.out (by rw [HZ.out]; omega)
  obtain ⟨⟨r0, r1, r2, r3⟩, ⟨q0, q1, q2, q3⟩⟩ := blk4 hb1 HK1.out (by rw [HZ.out]; omega)
  have hsz := hb1.size
  rw [HZ.out] at hsz
  have HF := Lib.hid (HB.out.trans (hb1.mono HB.out.size))
  clear hb1
  by_cases hr : runsB d = true
  · rw [hr]
    by_cases hx : 0 ≤ x ∧ x ≤ 65536
    · have HS := Lib.hid (show stopD d x = (⟨d.sectors, d.pending, x, d.stopped⟩, 0) by simp only [stopD, hr, if_true, if_pos hx])
      obtain ⟨hx1, hx2⟩ := hx
      clear hr
      go_wp2_with fail
      refine bodyPost_ret (v := .tuple #[.agg #[.slice sA d.sectors.length sc, .slice pA d.pending.length pc, .int .i64 x, .bool d.stopped], .int .i64 0]) (by simp [results, Try.results25, go_sem, r0, r1, r2, r3]) rfl (RetDiskE.mk (d := ⟨d.sectors, d.pending, x, d.stopped⟩) ⟨_, _, rfl, ⟨sA, sc, rfl, hs1, hs2, hs3⟩, ⟨pA, pc, rfl, hp1, hp2, hp3⟩⟩ ?_ HS.out)
      refine Below.setCell (Below.setCell (Below.setCell (Below.setCell (Below.setCell HF.out ?_ _) ?_ _) ?_ _) ?_ _) ?_ _ <;> simp
    · have HS := Lib.hid (show stopD d x = (zeroD, 1) by simp only [stopD, hr, if_true, if_neg hx])
      have hx' : x < 0 ∨ (0 ≤ x ∧ 65536 < x) := by omega
      clear hr hx
      rcases hx' with hx | ⟨hx1, hx⟩
      all_goals
        go_wp2_with fail
        refine bodyPost_ret (v := .tuple #[.agg #[.slice none 0 0, .slice none 0 0, .int .i64 0, .bool false], .int .i64 1]) (by simp [results, Try.results25, go_sem, r0, r1, r2, r3]) rfl (RetDiskE.mk IsDisk.zero ?_ HS.out)
        refine Below.setCell (Below.setCell (Below.setCell (Below.setCell HF.out ?_ _) ?_ _) ?_ _) ?_ _ <;> simp
  · have hr' : runsB d = false := by simpa using hr
    rw [hr']
    have HS := Lib.hid (show stopD d x = (zeroD, 340) by simp [stopD, hr'])
    clear hr hr'
    go_wp2_with fail
    refine bodyPost_ret (v := .tuple #[.agg #[.slice none 0 0, .slice none 0 0, .int .i64 0, .bool false], .int .i64 340]) (by simp [results, Try.results25, go_sem, r0, r1, r2, r3]) rfl (RetDiskE.mk IsDisk.zero ?_ HS.out)
    refine Below.setCell (Below.setCell (Below.setCell (Below.setCell HF.out ?_ _) ?_ _) ?_ _) ?_ _ <;> simp
end Go.Proofs.Ytjmafnkknohinaa
