import Derived.Test.YtjmafnkknohinaaT20
namespace Go.Proofs.Ytjmafnkknohinaa
open Go.RowKit Go.Shelf

attribute [local go_sem] Oper.semAt_some

set_option maxRecDepth 100000 in
set_option maxHeartbeats 1000000 in
theorem read_nosec (w : World) (M : Nat → Prop) (d : DiskD) (v : Value) (h : IsDisk w M v d) (x : Int) (hr : runsB d = true) (hh : hasB d x = false) : Calls Try.prog 21 #[v, .int .i64 x] w (RetBytesE w M (readD d x)) := by
  have HV := Lib.hid (show readD d x = ([], 340) by simp [readD, hh])
  obtain ⟨sA, sc, pA, pc, rfl, hs1, hs2, hs3, hp1, hp2, hp3⟩ := h.parts
  refine (callsIn_wide (n := 6)).1 ?_
  refine callsIn_of_wp_marks Try.func21 rfl trivial ?_ rfl
  simp only [Try.ntmps21, List.size_toArray, List.length_cons, List.length_nil, Nat.reduceAdd, Nat.reduceSub, Array.replicate_succ, Array.replicate_zero, List.push_toArray, List.append_toArray, List.nil_append, List.cons_append]
  gi_wp2_with fail
  refine ⟨trivial, callsIn_wide.2 (nameW fun W1 hW1 => ?_)⟩
  have hz : W1.heap.size = w.heap.size + 4 := by rw [hW1.out]; simp
  have hB1 : Below w.heap.size w W1 := by rw [hW1.out]; exact ((((Below.refl w.heap.size w).alloc (Nat.le_refl _) _).alloc (by simp) _).alloc (by simp; omega) _).alloc (by simp; omega) _
  have k0 : W1.heap[w.heap.size]? = some (.cells #[.slice sA d.sectors.length sc, .slice pA d.pending.length pc, .int .i64 d.left, .bool d.stopped] 25 (0, 0)) := (by rw [hW1.out]; simp only [heap_alloc_if, World.size_alloc]; repeat (first | rw [if_pos trivial] | rw [if_pos (by omega)] | rw [if_neg (by omega)]))
  have k1 : W1.heap[w.heap.size + 1]? = some (.cells #[.int .i64 x] 3 (0, 0)) := (by rw [hW1.out]; simp only [heap_alloc_if, World.size_alloc]; repeat (first | rw [if_pos trivial] | rw [if_pos (by omega)] | rw [if_neg (by omega)]))
  have k2 : W1.heap[w.heap.size + 2]? = some (.cells #[.slice none 0 0] 35 (0, 0)) := (by rw [hW1.out]; simp only [heap_alloc_if, World.size_alloc]; repeat (first | rw [if_pos trivial] | rw [if_pos (by omega)] | rw [if_neg (by omega)]))
  have k3 : W1.heap[w.heap.size + 3]? = some (.cells #[.int .i64 0] 28 (0, 0)) := (by rw [hW1.out]; simp only [heap_alloc_if, World.size_alloc]; repeat (first | rw [if_pos trivial] | rw [if_pos (by omega)] | rw [if_neg (by omega)]))
  refine (runs_any W1 M d _ (h.below hB1)).mono ?_
  rintro e w1 ⟨rfl, hb1⟩
  rw [hr]
  have hF1 := hB1.trans (hb1.mono hB1.size)
  have K0 := (hb1.block w.heap.size (by omega)).trans k0
  have K1 := (hb1.block (w.heap.size + 1) (by omega)).trans k1
  have K2 := (hb1.block (w.heap.size + 2) (by omega)).trans k2
  have K3 := (hb1.block (w.heap.size + 3) (by omega)).trans k3
  have hz1 : w.heap.size + 4 ≤ w1.heap.size := by have := hb1.size; omega
  clear k0 k1 k2 k3 hb1 hB1 hz hW1
  have H0 := Lib.hid K0
  have H1 := Lib.hid K1
  have H2 := Lib.hid K2
  have H3 := Lib.hid K3
  have HF1 := Lib.hid hF1
  clear K0 K1 K2 K3 hF1
  obtain ⟨⟨c0, c1, c2, c3⟩, _⟩ := blk4 (Below.refl _ w1) H0.out (Nat.lt_succ_self _)
  have d1 := cell_of (j := 0) H1.out rfl
  have C2 := Lib.hid (has_any w1 M d _ (h.below HF1.out) x)
  obtain ⟨-, g1, g2, g3, -, -, -⟩ := runs_parts hr
  have HR := Lib.hid hr
  rw [hh] at C2
  clear hr hh
  gi_wp2_with fail
  refine ⟨trivial, callsIn_wide.2 ?_⟩
  refine C2.out.mono ?_
  rintro e w2 ⟨rfl, hb2⟩
  have J0 := Lib.hid ((hb2.block w.heap.size (by omega)).trans H0.out)
  have J1 := Lib.hid ((hb2.block (w.heap.size + 1) (by omega)).trans H1.out)
  have J2 := Lib.hid ((hb2.block (w.heap.size + 2) (by omega)).trans H2.out)
  have J3 := Lib.hid ((hb2.block (w.heap.size + 3) (by omega)).trans H3.out)
  have HF2 := Lib.hid (HF1.out.trans (hb2.mono HF1.out.size))
  have hz2 : w.heap.size + 4 ≤ w2.heap.size := by have := hb2.size; omega
  clear hb2 c0 c1 c2 c3 d1
  obtain ⟨⟨c0, c1, c2, c3⟩, _⟩ := blk4 (Below.refl _ w2) J0.out (Nat.lt_succ_self _)
  have k2 : Boxed w2 (w.heap.size + 1 + 1) 35 (.slice none 0 0) := J2.out
  have k3 : Boxed w2 (w.heap.size + 1 + 1 + 1) 28 (.int .i64 0) := J3.out
  have x2 := k2.cell
  have y2 := k2.frozen
  have x3 := k3.cell
  have y3 := k3.frozen
  have K2 := Lib.hid k2
  have K3 := Lib.hid k3
  clear k2 k3
  gi_wp2_with fail
  have b2 : Boxed ((w2.setCell ⟨w.heap.size + 1 + 1, 0, none⟩ (.slice none 0 0)).setCell ⟨w.heap.size + 1 + 1 + 1, 0, none⟩ (.int .i64 340)) (w.heap.size + 1 + 1) 35 (.slice none 0 0) := (K2.out.set _).other (by omega) _
  have b3 : Boxed ((w2.setCell ⟨w.heap.size + 1 + 1, 0, none⟩ (.slice none 0 0)).setCell ⟨w.heap.size + 1 + 1 + 1, 0, none⟩ (.int .i64 340)) (w.heap.size + 1 + 1 + 1) 28 (.int .i64 340) := (K3.out.other (by omega) _).set _
  have z2 := b2.cell
  have z3 := b3.cell
  have hbf := (HF2.out.setCell (p := ⟨w.heap.size + 1 + 1, 0, none⟩) (by dsimp only; omega) (.slice none 0 0)).setCell (p := ⟨w.heap.size + 1 + 1 + 1, 0, none⟩) (by dsimp only; omega) (.int .i64 340)
  clear b2 b3 x2 y2 x3 y3
  generalize (World.setCell _ _ (.int .i64 340)) = Wf at z2 z3 hbf ⊢
  refine ⟨.tuple #[.slice none 0 0, .int .i64 340], ?_, ?_⟩
  · simp [results, Try.f21, go_sem, z2, z3]
  · rw [HV.out]
    exact ⟨_, rfl, IsBytes.nil, hbf⟩

set_option maxRecDepth 100000 in
set_option maxHeartbeats 1000000 in
theorem read_norun (w : World) (M : Nat → Prop) (d : DiskD) (v : Value) (h : IsDisk w M v d) (x : Int) (hr : runsB d = false) : Calls Try.prog 21 #[v, .int .i64 x] w (RetBytesE w M (readD d x)) := by
  have HV := Lib.hid (show readD d x = ([], 340) by simp [readD, hr])
  obtain ⟨sA, sc, pA, pc, rfl, hs1, hs2, hs3, hp1, hp2, hp3⟩ := h.parts
  refine (callsIn_wide (n := 6)).1 ?_
  refine callsIn_of_wp_marks Try.func21 rfl trivial ?_ rfl
  simp only [Try.ntmps21, List.size_toArray, List.length_cons, List.length_nil, Nat.reduceAdd, Nat.reduceSub, Array.replicate_succ, Array.replicate_zero, List.push_toArray, List.append_toArray, List.nil_append, List.cons_append]
  gi_wp2_with fail
  refine ⟨trivial, callsIn_wide.2 (nameW fun W1 hW1 => ?_)⟩
  have hz : W1.heap.size = w.heap.size + 4 := by rw [hW1.out]; simp
  have hB1 : Below w.heap.size w W1 := by rw [hW1.out]; exact ((((Below.refl w.heap.size w).alloc (Nat.le_refl _) _).alloc (by simp) _).alloc (by simp; omega) _).alloc (by simp; omega) _
  have k0 : W1.heap[w.heap.size]? = some (.cells #[.slice sA d.sectors.length sc, .slice pA d.pending.length pc, .int .i64 d.left, .bool d.stopped] 25 (0, 0)) := (by rw [hW1.out]; simp only [heap_alloc_if, World.size_alloc]; repeat (first | rw [if_pos trivial] | rw [if_pos (by omega)] | rw [if_neg (by omega)]))
  have k1 : W1.heap[w.heap.size + 1]? = some (.cells #[.int .i64 x] 3 (0, 0)) := (by rw [hW1.out]; simp only [heap_alloc_if, World.size_alloc]; repeat (first | rw [if_pos trivial] | rw [if_pos (by omega)] | rw [if_neg (by omega)]))
  have k2 : W1.heap[w.heap.size + 2]? = some (.cells #[.slice none 0 0] 35 (0, 0)) := (by rw [hW1.out]; simp only [heap_alloc_if, World.size_alloc]; repeat (first | rw [if_pos trivial] | rw [if_pos (by omega)] | rw [if_neg (by omega)]))
  have k3 : W1.heap[w.heap.size + 3]? = some (.cells #[.int .i64 0] 28 (0, 0)) := (by rw [hW1.out]; simp only [heap_alloc_if, World.size_alloc]; repeat (first | rw [if_pos trivial] | rw [if_pos (by omega)] | rw [if_neg (by omega)]))
  refine (runs_any W1 M d _ (h.below hB1)).mono ?_
  rintro e w1 ⟨rfl, hb1⟩
  rw [hr]
  have hF1 := hB1.trans (hb1.mono hB1.size)
  have K0 := (hb1.block w.heap.size (by omega)).trans k0
  have K1 := (hb1.block (w.heap.size + 1) (by omega)).trans k1
  have K2 := (hb1.block (w.heap.size + 2) (by omega)).trans k2
  have K3 := (hb1.block (w.heap.size + 3) (by omega)).trans k3
  have hz1 : w.heap.size + 4 ≤ w1.heap.size := by have := hb1.size; omega
  clear k0 k1 k2 k3 hb1 hB1 hz hW1
  have H0 := Lib.hid K0
  have H1 := Lib.hid K1
  have H2 := Lib.hid K2
  have H3 := Lib.hid K3
  have HF1 := Lib.hid hF1
  clear K0 K1 K2 K3 hF1
  obtain ⟨⟨c0, c1, c2, c3⟩, _⟩ := blk4 (Below.refl _ w1) H0.out (Nat.lt_succ_self _)
  clear hr
  have k2 : Boxed w1 (w.heap.size + 1 + 1) 35 (.slice none 0 0) := H2.out
  have k3 : Boxed w1 (w.heap.size + 1 + 1 + 1) 28 (.int .i64 0) := H3.out
  have x2 := k2.cell
  have y2 := k2.frozen
  have x3 := k3.cell
  have y3 := k3.frozen
  have K2 := Lib.hid k2
  have K3 := Lib.hid k3
  clear k2 k3
  gi_wp2_with fail
  refine ⟨trivial, ?_⟩
  gi_wp2_with fail
  have b2 : Boxed ((w1.setCell ⟨w.heap.size + 1 + 1, 0, none⟩ (.slice none 0 0)).setCell ⟨w.heap.size + 1 + 1 + 1, 0, none⟩ (.int .i64 340)) (w.heap.size + 1 + 1) 35 (.slice none 0 0) := (K2.out.set _).other (by omega) _
  have b3 : Boxed ((w1.setCell ⟨w.heap.size + 1 + 1, 0, none⟩ (.slice none 0 0)).setCell ⟨w.heap.size + 1 + 1 + 1, 0, none⟩ (.int .i64 340)) (w.heap.size + 1 + 1 + 1) 28 (.int .i64 340) := (K3.out.other (by omega) _).set _
  have z2 := b2.cell
  have z3 := b3.cell
  have hbf := (HF1.out.setCell (p := ⟨w.heap.size + 1 + 1, 0, none⟩) (by dsimp only; omega) (.slice none 0 0)).setCell (p := ⟨w.heap.size + 1 + 1 + 1, 0, none⟩) (by dsimp only; omega) (.int .i64 340)
  clear b2 b3 x2 y2 x3 y3
  generalize (World.setCell _ _ (.int .i64 340)) = Wf at z2 z3 hbf ⊢
  refine ⟨.tuple #[.slice none 0 0, .int .i64 340], ?_, ?_⟩
  · simp [results, Try.f21, go_sem, z2, z3]
  · rw [HV.out]
    exact ⟨_, rfl, IsBytes.nil, hbf⟩

theorem read_any (w : World) (M : Nat → Prop) (d : DiskD) (v : Value) (h : IsDisk w M v d) (x : Int) : Calls Try.prog 21 #[v, .int .i64 x] w (RetBytesE w M (readD d x)) := by
  by_cases hr : runsB d = true
  · by_cases hh : hasB d x = true
    · exact read_go w M d v h x hr hh
    · exact read_nosec w M d v h x hr (by simpa using hh)
  · exact read_norun w M d v h x (by simpa using hr)
end Go.Proofs.Ytjmafnkknohinaa
