import Derived.Test.YtjmafnkknohinaaK1
import Derived.Deep.DeepCutAuto
namespace Go.Proofs.Ytjmafnkknohinaa
open Go.RowKit Go.Shelf Go.Deep

def b7 : List UInt8 := 7 :: List.replicate 127 0
def b8 : List UInt8 := 8 :: List.replicate 127 0
def sd : DiskD := ⟨[zs128, zs128], [], -1, false⟩
def sw : DiskD := ⟨[zs128, zs128], [⟨1, b7⟩], -1, false⟩
def ss1 : DiskD := ⟨[zs128, zs128], [⟨1, b7⟩], 1, false⟩
def ss2 : DiskD := ⟨[zs128, zs128], [⟨1, b7⟩, ⟨0, b8⟩], 1, false⟩
def sx : DiskD := ⟨[zs128, b7], [], 0, true⟩
def sy : DiskD := ⟨[zs128, b7], [], -1, false⟩
def sz : DiskD := ⟨[zs128, zs128], [], -1, false⟩
theorem sane1 : newD 0 = (zeroD, 1) := by kernel_rfl
theorem sane2 : newD 2 = (sd, 0) := by kernel_rfl
theorem sane3 : writeD sd 1 [7] = (sw, 0) := by kernel_rfl
theorem sane4 : readD sw 1 = (b7, 0) := by kernel_rfl
theorem sane5 : readD sd 2 = ([], 340) := by kernel_rfl
theorem sane6 : writeD sd 0 (List.replicate 129 0) = (zeroD, 1) := by kernel_rfl
theorem sane7 : stopD sw 1 = (ss1, 0) := by kernel_rfl
theorem sane8 : writeD ss1 0 [8] = (ss2, 0) := by kernel_rfl
theorem sane9 : syncD ss2 = (sx, 340) := by kernel_rfl
theorem sane10 : restartD sx = sy := by kernel_rfl
theorem sane11 : readD sy 1 = (b7, 0) := by kernel_rfl
theorem sane12 : readD sy 0 = (zs128, 0) := by kernel_rfl
theorem sane13 : restartD sw = sz := by kernel_rfl
theorem sane14 : readD sz 1 = (zs128, 0) := by kernel_rfl
theorem bytes_one {w : World} {M : Nat → Prop} {g : Nat} {t : TypeId} {x : UInt8} (h : w.heap[g]? = some (.cells #[.int .u8 (x.toNat : Int)] t (0, 0))) (hM : M g) : IsBytes w M (.slice (some ⟨g, 0, none⟩) 1 1) [x] :=
  bytes_of_block (bs := [x]) h hM (by simp)

theorem first_byte {w : World} {M : Nat → Prop} {A : Option Addr} {n c : Nat} {bs : List UInt8} {x : UInt8} (h : IsBytes w M (.slice A n c) bs) (hn : 0 < bs.length) (hx : bs.getD 0 0 = x) : ∃ g o, A = some ⟨g, o, none⟩ ∧ w.cell? ⟨g, o, none⟩ = some (.int .u8 (x.toNat : Int)) := by
  obtain ⟨A', c', e, _, _, h3⟩ := h
  cases e
  obtain ⟨g, o, e, _, hc⟩ := h3 hn
  refine ⟨g, o, e, ?_⟩
  have := hc 0 0 hn (by omega)
  simp only [Nat.zero_mul, Nat.add_zero, hx] at this
  exact this
theorem keep4 {w : World} {b g : Nat} {x y z u a0 a1 a2 a3 : Value} (hb : b ≠ g) (e0 : w.cell? ⟨b, 0, none⟩ = some x) (e1 : w.cell? ⟨b, 1, none⟩ = some y) (e2 : w.cell? ⟨b, 2, none⟩ = some z) (e3 : w.cell? ⟨b, 3, none⟩ = some u) :
    ((((w.setCell ⟨g, 0, none⟩ a0).setCell ⟨g, 1, none⟩ a1).setCell ⟨g, 2, none⟩ a2).setCell ⟨g, 3, none⟩ a3).cell? ⟨b, 0, none⟩ = some x ∧
    ((((w.setCell ⟨g, 0, none⟩ a0).setCell ⟨g, 1, none⟩ a1).setCell ⟨g, 2, none⟩ a2).setCell ⟨g, 3, none⟩ a3).cell? ⟨b, 1, none⟩ = some y ∧
    ((((w.setCell ⟨g, 0, none⟩ a0).setCell ⟨g, 1, none⟩ a1).setCell ⟨g, 2, none⟩ a2).setCell ⟨g, 3, none⟩ a3).cell? ⟨b, 2, none⟩ = some z ∧
    ((((w.setCell ⟨g, 0, none⟩ a0).setCell ⟨g, 1, none⟩ a1).setCell ⟨g, 2, none⟩ a2).setCell ⟨g, 3, none⟩ a3).cell? ⟨b, 3, none⟩ = some u := by
  have h : ∀ j, ((((w.setCell ⟨g, 0, none⟩ a0).setCell ⟨g, 1, none⟩ a1).setCell ⟨g, 2, none⟩ a2).setCell ⟨g, 3, none⟩ a3).cell? ⟨b, j, none⟩ = w.cell? ⟨b, j, none⟩ := fun j =>
    ((((Off.refl g w).setCell _ _).setCell _ _).setCell _ _).setCell _ _ _ hb
  exact ⟨(h 0).trans e0, (h 1).trans e1, (h 2).trans e2, (h 3).trans e3⟩
theorem field2 (a b d : Value) (w : World) : (Instr.field 25 (.agg #[a, b, .int .i64 (-1), d]) 2).run Try.prog w = .ok (.int .i64 (-1)) w := by kernel_rfl
def z129 : List UInt8 := List.replicate 129 0
def zv129 : List Value := List.replicate 129 (.int .u8 0)
theorem make129 (w : World) : (Instr.makeSlice 35 (.int .i64 129) (.int .i64 129)).run Try.prog w = .ok (.slice (some ⟨w.heap.size, 0, none⟩) 129 129) (w.alloc (.cells zv129.toArray 5)) := by
  have hi : (Try.prog.info? 5).map (fun i => (i.zero, i.size, i.bytes)) = some (some (.int .u8 0), 1, 1) := by kernel_rfl
  have := run_make_row' (P := Try.prog) 35 5 (.int .u8 0) 1 Try.underlying35 hi rfl .i64 .i64 129 (by omega) (by omega) w
  have e : madeCells #[Value.int .u8 0] 129 = zv129.toArray := by kernel_rfl
  rw [e] at this
  exact this
theorem z129_map : z129.map byt = zv129 := by unfold z129 zv129; rw [List.map_replicate]; rfl
def RetZero (w : World) (n : Int) (e : Ending) (w' : World) : Prop := ∃ sA sc pA pc, e = .returned (.tuple #[.agg #[.slice sA zeroD.sectors.length sc, .slice pA zeroD.pending.length pc, .int .i64 zeroD.left, .bool zeroD.stopped], .int .i64 n]) ∧ Below w.heap.size w w'
theorem write129 {l : List Nat} {v : Value} (w5 W : World) (hB : Below w5.heap.size w5 W) (hD : IsDisk w5 (NB l) v sd) (hl : InW l w5) (g : Nat) (hg : W.heap[g]? = some (.cells zv129.toArray 5 (0, 0))) (hge : w5.heap.size ≤ g) :
    Calls Try.prog 19 #[v, .int .i64 0, .slice (some ⟨g, 0, none⟩) 129 129] W (RetZero W 1) := by
  have hy : IsBytes W (NB l) (.slice (some ⟨g, 0, none⟩) 129 129) z129 := by
    rw [← z129_map] at hg
    have := bytes_of_block (M := NB l) hg (NB.ge hl hge) (by unfold z129; rw [List.length_replicate]; omega)
    unfold z129 at this ⊢
    rwa [List.length_replicate] at this
  have C := write_l l W (hl.mono hB.size) sd v (hD.below hB) 0 z129 _ hy
  have e : writeD sd 0 z129 = (zeroD, 1) := sane6
  rw [e] at C
  refine C.mono ?_
  rintro e w' ⟨v', rfl, hd, hb⟩
  obtain ⟨sA, sc, pA, pc, rfl, -⟩ := hd.parts
  exact ⟨sA, sc, pA, pc, rfl, hb⟩

set_option maxRecDepth 100000 in
set_option maxHeartbeats 2000000 in
theorem sane_any (w : World) : Calls Try.prog 10 #[] w fun e w' => e = .returned (.bool true) ∧ Below w.heap.size w w' := by
  go_enter Try.func10, Try.ntmps10
  go_wp2_with fail
  refine nameW fun W1 hW1 => ?_
  have kpW1 : Kp [] w W1 := by rw [hW1.out]; repeat (first | exact Kp.refl _ _ | refine Kp.alloc ?_ _ | refine Kp.setCell ?_ (by simp) _ _ | refine Kp.drew ?_ | refine Kp.drewN ?_ _)
  have bwW1 : Below w.heap.size w W1 := by rw [hW1.out]; repeat (first | exact Below.refl _ _ | refine Below.alloc ?_ (by (repeat (first | simp only [World.size_alloc] | simp only [size_set] | simp only [World.size_drew])); omega) _ | refine Below.setCell ?_ (by first | (dsimp only; omega) | omega) _ | refine Below.drew ?_ | refine below_drewN ?_ _)
  have szW1 : w.heap.size ≤ W1.heap.size := kpW1.size
  have inW1 : InW [] W1 := InW.nil _
  have C1 := Lib.hid (new_l [] W1 inW1 0)
  rw [sane1] at C1
  refine C1.out.mono ?_
  rintro e w1 ⟨v1, rfl, hD1, hb1⟩
  obtain ⟨sA1, sc1, pA1, pc1, rfl, -⟩ := hD1.parts
  have bww1 := Lib.hid (bwW1.trans (hb1.mono bwW1.size))
  have szw1 : W1.heap.size ≤ w1.heap.size := hb1.size
  clear kpW1 bwW1 inW1 hb1
  clear hD1 C1
  go_wp2_with fail
  refine nameW fun W2 hW2 => ?_
  have kpW2 : Kp [w1.heap.size] w1 W2 := by rw [hW2.out]; repeat (first | exact Kp.refl _ _ | refine Kp.alloc ?_ _ | refine Kp.setCell ?_ (by simp) _ _ | refine Kp.drew ?_ | refine Kp.drewN ?_ _)
  have bwW2 : Below w.heap.size w W2 := by rw [hW2.out]; repeat (first | exact bww1.out | refine Below.alloc ?_ (by (repeat (first | simp only [World.size_alloc] | simp only [size_set] | simp only [World.size_drew])); omega) _ | refine Below.setCell ?_ (by first | (dsimp only; omega) | omega) _ | refine Below.drew ?_ | refine below_drewN ?_ _)
  have szW2 : w1.heap.size ≤ W2.heap.size := kpW2.size
  have Bx1_W2 : Hid (W2.heap[w1.heap.size]? = some (.cells #[.slice sA1 zeroD.sectors.length sc1, .slice pA1 zeroD.pending.length pc1, .int .i64 zeroD.left, .bool zeroD.stopped] 25 (0, 0))) := by show _ = _; rw [hW2.out]; (repeat (first | simp only [heap_drew] | simp only [World.heap_drewN] | simp only [heap_alloc_if] | simp only [heap_set_if] | simp only [World.size_alloc] | simp only [size_set] | simp only [World.size_drew])); (repeat (first | rw [if_pos trivial] | rw [if_pos (by omega)] | rw [if_neg (by omega)]))
  have ltx1_W2 : w1.heap.size < W2.heap.size := lt_heap Bx1_W2.out
  have mkx1 : w1.heap.size < W2.heap.size := ltx1_W2
  have inW2 : InW [w1.heap.size] W2 := by intro b hb; simp at hb; omega
  have C2 := Lib.hid (new_l [w1.heap.size] W2 inW2 2)
  rw [sane2] at C2
  refine C2.out.mono ?_
  rintro e w2 ⟨v2, rfl, hD2, hb2⟩
  obtain ⟨sA2, sc2, pA2, pc2, rfl, -⟩ := hD2.parts
  have Bx1_w2 := Lib.hid ((hb2.block (w1.heap.size) (by omega)).trans Bx1_W2.out)
  have ltx1_w2 : w1.heap.size < w2.heap.size := lt_heap Bx1_w2.out
  have bww2 := Lib.hid (bwW2.trans (hb2.mono bwW2.size))
  have szw2 : W2.heap.size ≤ w2.heap.size := hb2.size
  clear Bx1_W2 ltx1_W2
  clear kpW2 bwW2 inW2 hb2
  have Dd_w2 := Lib.hid hD2
  clear hD2 C2
  go_wp2_with fail
  refine nameW fun W3 hW3 => ?_
  have kpW3 : Kp [w2.heap.size, w1.heap.size] w2 W3 := by rw [hW3.out]; repeat (first | exact Kp.refl _ _ | refine Kp.alloc ?_ _ | refine Kp.setCell ?_ (by simp) _ _ | refine Kp.drew ?_ | refine Kp.drewN ?_ _)
  have bwW3 : Below w.heap.size w W3 := by rw [hW3.out]; repeat (first | exact bww2.out | refine Below.alloc ?_ (by (repeat (first | simp only [World.size_alloc] | simp only [size_set] | simp only [World.size_drew])); omega) _ | refine Below.setCell ?_ (by first | (dsimp only; omega) | omega) _ | refine Below.drew ?_ | refine below_drewN ?_ _)
  have szW3 : w2.heap.size ≤ W3.heap.size := kpW3.size
  have Bx3_W3 : Hid (W3.heap[w2.heap.size]? = some (.cells #[.slice sA2 sd.sectors.length sc2, .slice pA2 sd.pending.length pc2, .int .i64 sd.left, .bool sd.stopped] 25 (0, 0))) := by show _ = _; rw [hW3.out]; (repeat (first | simp only [heap_drew] | simp only [World.heap_drewN] | simp only [heap_alloc_if] | simp only [heap_set_if] | simp only [World.size_alloc] | simp only [size_set] | simp only [World.size_drew])); (repeat (first | rw [if_pos trivial] | rw [if_pos (by omega)] | rw [if_neg (by omega)]))
  have ltx3_W3 : w2.heap.size < W3.heap.size := lt_heap Bx3_W3.out
  have mkx3 : w2.heap.size < W3.heap.size := ltx3_W3
  have Bx1_W3 : Hid (W3.heap[w1.heap.size]? = some (.cells #[.slice sA1 zeroD.sectors.length sc1, .slice pA1 zeroD.pending.length pc1, .int .i64 zeroD.left, .bool zeroD.stopped] 25 (0, 0))) := by show _ = _; rw [hW3.out]; (repeat (first | simp only [heap_drew] | simp only [World.heap_drewN] | simp only [heap_alloc_if] | simp only [heap_set_if] | simp only [World.size_alloc] | simp only [size_set] | simp only [World.size_drew])); (repeat (first | rw [if_pos trivial] | rw [if_pos (by omega)] | rw [if_neg (by omega)])); exact Bx1_w2.out
  have ltx1_W3 : w1.heap.size < W3.heap.size := lt_heap Bx1_W3.out
  have inW3 : InW [w2.heap.size, w1.heap.size] W3 := by intro b hb; simp at hb; omega
  have Dd_W3 := Lib.hid (((Dd_w2.out).box (by omega)).kp kpW3)
  clear Bx1_w2 ltx1_w2 Dd_w2
  have y7 := Lib.hid (bytes_one (M := NB [w2.heap.size, w1.heap.size]) (t := 5) (x := 7) (show W3.heap[w2.heap.size + 1]? = _ by rw [hW3.out]; (repeat (first | simp only [heap_drew] | simp only [World.heap_drewN] | simp only [heap_alloc_if] | simp only [heap_set_if] | simp only [World.size_alloc] | simp only [size_set] | simp only [World.size_drew])); (repeat (first | rw [if_pos trivial] | rw [if_pos (by omega)] | rw [if_neg (by omega)])); rfl) (by simp [NB]; omega))
  have C3 := Lib.hid (write_l [w2.heap.size, w1.heap.size] W3 inW3 sd _ Dd_W3.out 1 [7] _ y7.out)
  rw [sane3] at C3
  refine C3.out.mono ?_
  rintro e w3 ⟨v3, rfl, hD3, hb3⟩
  obtain ⟨sA3, sc3, pA3, pc3, rfl, -⟩ := hD3.parts
  have Bx1_w3 := Lib.hid ((hb3.block (w1.heap.size) (by omega)).trans Bx1_W3.out)
  have ltx1_w3 : w1.heap.size < w3.heap.size := lt_heap Bx1_w3.out
  have Bx3_w3 := Lib.hid ((hb3.block (w2.heap.size) (by omega)).trans Bx3_W3.out)
  have ltx3_w3 : w2.heap.size < w3.heap.size := lt_heap Bx3_w3.out
  have Dd_w3 := Lib.hid (Dd_W3.out.below hb3)
  have bww3 := Lib.hid (bwW3.trans (hb3.mono bwW3.size))
  have szw3 : W3.heap.size ≤ w3.heap.size := hb3.size
  clear Bx1_W3 Bx3_W3 ltx1_W3 ltx3_W3 Dd_W3
  clear kpW3 bwW3 inW3 hb3
  have Dw_w3 := Lib.hid hD3
  clear hD3 C3
  clear y7
  go_wp2_with fail
  refine nameW fun W4 hW4 => ?_
  have kpW4 : Kp [w3.heap.size, w2.heap.size, w1.heap.size] w3 W4 := by rw [hW4.out]; repeat (first | exact Kp.refl _ _ | refine Kp.alloc ?_ _ | refine Kp.setCell ?_ (by simp) _ _ | refine Kp.drew ?_ | refine Kp.drewN ?_ _)
  have bwW4 : Below w.heap.size w W4 := by rw [hW4.out]; repeat (first | exact bww3.out | refine Below.alloc ?_ (by (repeat (first | simp only [World.size_alloc] | simp only [size_set] | simp only [World.size_drew])); omega) _ | refine Below.setCell ?_ (by first | (dsimp only; omega) | omega) _ | refine Below.drew ?_ | refine below_drewN ?_ _)
  have szW4 : w3.heap.size ≤ W4.heap.size := kpW4.size
  have Bx5_W4 : Hid (W4.heap[w3.heap.size]? = some (.cells #[.slice sA3 sw.sectors.length sc3, .slice pA3 sw.pending.length pc3, .int .i64 sw.left, .bool sw.stopped] 25 (0, 0))) := by show _ = _; rw [hW4.out]; (repeat (first | simp only [heap_drew] | simp only [World.heap_drewN] | simp only [heap_alloc_if] | simp only [heap_set_if] | simp only [World.size_alloc] | simp only [size_set] | simp only [World.size_drew])); (repeat (first | rw [if_pos trivial] | rw [if_pos (by omega)] | rw [if_neg (by omega)]))
  have ltx5_W4 : w3.heap.size < W4.heap.size := lt_heap Bx5_W4.out
  have mkx5 : w3.heap.size < W4.heap.size := ltx5_W4
  have Bx1_W4 : Hid (W4.heap[w1.heap.size]? = some (.cells #[.slice sA1 zeroD.sectors.length sc1, .slice pA1 zeroD.pending.length pc1, .int .i64 zeroD.left, .bool zeroD.stopped] 25 (0, 0))) := by show _ = _; rw [hW4.out]; (repeat (first | simp only [heap_drew] | simp only [World.heap_drewN] | simp only [heap_alloc_if] | simp only [heap_set_if] | simp only [World.size_alloc] | simp only [size_set] | simp only [World.size_drew])); (repeat (first | rw [if_pos trivial] | rw [if_pos (by omega)] | rw [if_neg (by omega)])); exact Bx1_w3.out
  have ltx1_W4 : w1.heap.size < W4.heap.size := lt_heap Bx1_W4.out
  have Bx3_W4 : Hid (W4.heap[w2.heap.size]? = some (.cells #[.slice sA2 sd.sectors.length sc2, .slice pA2 sd.pending.length pc2, .int .i64 sd.left, .bool sd.stopped] 25 (0, 0))) := by show _ = _; rw [hW4.out]; (repeat (first | simp only [heap_drew] | simp only [World.heap_drewN] | simp only [heap_alloc_if] | simp only [heap_set_if] | simp only [World.size_alloc] | simp only [size_set] | simp only [World.size_drew])); (repeat (first | rw [if_pos trivial] | rw [if_pos (by omega)] | rw [if_neg (by omega)])); exact Bx3_w3.out
  have ltx3_W4 : w2.heap.size < W4.heap.size := lt_heap Bx3_W4.out
  have inW4 : InW [w3.heap.size, w2.heap.size, w1.heap.size] W4 := by intro b hb; simp at hb; omega
  have Dd_W4 := Lib.hid (((Dd_w3.out).box (by omega)).kp kpW4)
  have Dw_W4 := Lib.hid (((Dw_w3.out).box (by omega)).kp kpW4)
  clear Bx1_w3 Bx3_w3 ltx1_w3 ltx3_w3 Dd_w3 Dw_w3
  have C4 := Lib.hid (read_l [w3.heap.size, w2.heap.size, w1.heap.size] W4 sw _ Dw_W4.out 1)
  rw [sane4] at C4
  refine C4.out.mono ?_
  rintro e w4 ⟨v4, rfl, ⟨A4, c4, rfl, hD4⟩, hb4⟩
  have Bx1_w4 := Lib.hid ((hb4.block (w1.heap.size) (by omega)).trans Bx1_W4.out)
  have ltx1_w4 : w1.heap.size < w4.heap.size := lt_heap Bx1_w4.out
  have Bx3_w4 := Lib.hid ((hb4.block (w2.heap.size) (by omega)).trans Bx3_W4.out)
  have ltx3_w4 : w2.heap.size < w4.heap.size := lt_heap Bx3_w4.out
  have Bx5_w4 := Lib.hid ((hb4.block (w3.heap.size) (by omega)).trans Bx5_W4.out)
  have ltx5_w4 : w3.heap.size < w4.heap.size := lt_heap Bx5_w4.out
  have Dd_w4 := Lib.hid (Dd_W4.out.below hb4)
  have Dw_w4 := Lib.hid (Dw_W4.out.below hb4)
  have bww4 := Lib.hid (bwW4.trans (hb4.mono bwW4.size))
  have szw4 : W4.heap.size ≤ w4.heap.size := hb4.size
  clear Bx1_W4 Bx3_W4 Bx5_W4 ltx1_W4 ltx3_W4 ltx5_W4 Dd_W4 Dw_W4
  clear kpW4 bwW4 inW4 hb4
  have Y4_w4 : Hid (IsBytes w4 (NB [w3.heap.size, w2.heap.size, w1.heap.size]) (.slice A4 128 c4) _) := ⟨A4, c4, rfl, hD4⟩
  clear hD4 C4
  obtain ⟨⟨c0, c1, c2, c3⟩, ⟨cf0, cf1, cf2, cf3⟩⟩ := blk4 (Below.refl _ w4) Bx3_w4.out (Nat.lt_succ_self _)
  go_wp2_with fail
  refine nameW fun W5 hW5 => ?_
  have kpW5 : Kp [w3.heap.size, w2.heap.size, w1.heap.size] w4 W5 := by rw [hW5.out]; repeat (first | exact Kp.refl _ _ | refine Kp.alloc ?_ _ | refine Kp.setCell ?_ (by simp) _ _ | refine Kp.drew ?_ | refine Kp.drewN ?_ _)
  have bwW5 : Below w.heap.size w W5 := by rw [hW5.out]; repeat (first | exact bww4.out | refine Below.alloc ?_ (by (repeat (first | simp only [World.size_alloc] | simp only [size_set] | simp only [World.size_drew])); omega) _ | refine Below.setCell ?_ (by first | (dsimp only; omega) | omega) _ | refine Below.drew ?_ | refine below_drewN ?_ _)
  have szW5 : w4.heap.size ≤ W5.heap.size := kpW5.size
  have Bx1_W5 : Hid (W5.heap[w1.heap.size]? = some (.cells #[.slice sA1 zeroD.sectors.length sc1, .slice pA1 zeroD.pending.length pc1, .int .i64 zeroD.left, .bool zeroD.stopped] 25 (0, 0))) := by show _ = _; rw [hW5.out]; (repeat (first | simp only [heap_drew] | simp only [World.heap_drewN] | simp only [heap_alloc_if] | simp only [heap_set_if] | simp only [World.size_alloc] | simp only [size_set] | simp only [World.size_drew])); (repeat (first | rw [if_pos trivial] | rw [if_pos (by omega)] | rw [if_neg (by omega)])); exact Bx1_w4.out
  have ltx1_W5 : w1.heap.size < W5.heap.size := lt_heap Bx1_W5.out
  have Bx3_W5 : Hid (W5.heap[w2.heap.size]? = some (.cells #[.slice sA2 sd.sectors.length sc2, .slice pA2 sd.pending.length pc2, .int .i64 sd.left, .bool sd.stopped] 25 (0, 0))) := by show _ = _; rw [hW5.out]; (repeat (first | simp only [heap_drew] | simp only [World.heap_drewN] | simp only [heap_alloc_if] | simp only [heap_set_if] | simp only [World.size_alloc] | simp only [size_set] | simp only [World.size_drew])); (repeat (first | rw [if_pos trivial] | rw [if_pos (by omega)] | rw [if_neg (by omega)])); exact Bx3_w4.out
  have ltx3_W5 : w2.heap.size < W5.heap.size := lt_heap Bx3_W5.out
  have Bx5_W5 : Hid (W5.heap[w3.heap.size]? = some (.cells #[.slice sA3 sw.sectors.length sc3, .slice pA3 sw.pending.length pc3, .int .i64 sw.left, .bool sw.stopped] 25 (0, 0))) := by show _ = _; rw [hW5.out]; (repeat (first | simp only [heap_drew] | simp only [World.heap_drewN] | simp only [heap_alloc_if] | simp only [heap_set_if] | simp only [World.size_alloc] | simp only [size_set] | simp only [World.size_drew])); (repeat (first | rw [if_pos trivial] | rw [if_pos (by omega)] | rw [if_neg (by omega)])); exact Bx5_w4.out
  have ltx5_W5 : w3.heap.size < W5.heap.size := lt_heap Bx5_W5.out
  have inW5 : InW [w3.heap.size, w2.heap.size, w1.heap.size] W5 := by intro b hb; simp at hb; omega
  have Dd_W5 := Lib.hid ((Dd_w4.out).kp kpW5)
  have Dw_W5 := Lib.hid ((Dw_w4.out).kp kpW5)
  have Y4_W5 := Lib.hid ((Y4_w4.out).kp kpW5)
  clear Bx1_w4 Bx3_w4 Bx5_w4 ltx1_w4 ltx3_w4 ltx5_w4 Dd_w4 Dw_w4 Y4_w4 c0 c1 c2 c3 cf0 cf1 cf2 cf3
  have C5 := Lib.hid (read_l [w3.heap.size, w2.heap.size, w1.heap.size] W5 sd _ Dd_W5.out 2)
  rw [sane5] at C5
  refine C5.out.mono ?_
  rintro e w5 ⟨v5, rfl, ⟨A5, c5, rfl, hD5⟩, hb5⟩
  have Bx1_w5 := Lib.hid ((hb5.block (w1.heap.size) (by omega)).trans Bx1_W5.out)
  have ltx1_w5 : w1.heap.size < w5.heap.size := lt_heap Bx1_w5.out
  have Bx3_w5 := Lib.hid ((hb5.block (w2.heap.size) (by omega)).trans Bx3_W5.out)
  have ltx3_w5 : w2.heap.size < w5.heap.size := lt_heap Bx3_w5.out
  have Bx5_w5 := Lib.hid ((hb5.block (w3.heap.size) (by omega)).trans Bx5_W5.out)
  have ltx5_w5 : w3.heap.size < w5.heap.size := lt_heap Bx5_w5.out
  have Dd_w5 := Lib.hid (Dd_W5.out.below hb5)
  have Dw_w5 := Lib.hid (Dw_W5.out.below hb5)
  have Y4_w5 := Lib.hid (Y4_W5.out.below hb5)
  have bww5 := Lib.hid (bwW5.trans (hb5.mono bwW5.size))
  have szw5 : W5.heap.size ≤ w5.heap.size := hb5.size
  clear Bx1_W5 Bx3_W5 Bx5_W5 ltx1_W5 ltx3_W5 ltx5_W5 Dd_W5 Dw_W5 Y4_W5
  clear kpW5 bwW5 inW5 hb5
  clear hD5 C5
  obtain ⟨⟨c0, c1, c2, c3⟩, ⟨cf0, cf1, cf2, cf3⟩⟩ := blk4 (Below.refl _ w5) Bx3_w5.out (Nat.lt_succ_self _)
  go_upto_region 6 with fail
  have in5 : InW [w3.heap.size, w2.heap.size, w1.heap.size] w5 := by intro b hb; simp at hb; omega
  go_cut [12] (fun s12 wx => s12 = .int .i64 1 ∧ Hid (Below w5.heap.size w5 wx))
  case first =>
    have hmk := make129
    go_region_held3 (fun w' => w'.cell? ⟨w2.heap.size, 0, none⟩ = some (.slice sA2 sd.sectors.length sc2) ∧ w'.cell? ⟨w2.heap.size, 1, none⟩ = some (.slice pA2 sd.pending.length pc2) ∧ w'.cell? ⟨w2.heap.size, 2, none⟩ = some (.int .i64 sd.left) ∧ w'.cell? ⟨w2.heap.size, 3, none⟩ = some (.bool sd.stopped)) (first | with_reducible exact ⟨c0, c1, c2, c3⟩ | with_reducible exact ⟨e0, e1, e2, e3⟩ | with_reducible exact keep4 (by omega) e0 e1 e2 e3 | go_keep) ((go_at_call 19; refine (write129 (l := [w3.heap.size, w2.heap.size, w1.heap.size]) w5 _ (by repeat (first | exact Below.refl _ _ | refine Below.alloc ?_ (by (repeat (first | simp only [World.size_alloc] | simp only [size_set] | simp only [World.size_drew])); omega) _ | refine Below.drew ?_)) Dd_w5.out in5 _ (by (repeat (first | simp only [heap_drew] | simp only [World.heap_drewN] | simp only [heap_alloc_if] | simp only [heap_set_if] | simp only [World.size_alloc] | simp only [size_set] | simp only [World.size_drew])); (repeat (first | rw [if_pos trivial] | rw [if_pos (by omega)] | rw [if_neg (by omega)]))) (by omega)).mono ?_; rintro e w6 ⟨sA6, sc6, pA6, pc6, rfl, hb6⟩; have hB6 : Below w5.heap.size w5 w6 := Below.trans (by repeat (first | exact Below.refl _ _ | refine Below.alloc ?_ (by (repeat (first | simp only [World.size_alloc] | simp only [size_set] | simp only [World.size_drew])); omega) _ | refine Below.drew ?_)) (hb6.mono (by (repeat (first | simp only [World.size_alloc] | simp only [size_set] | simp only [World.size_drew])); omega)); obtain ⟨⟨e0, e1, e2, e3⟩, _⟩ := blk4 hB6 Bx3_w5.out (by omega); have HB6 := Lib.hid hB6; have hz6 := hB6.size; (first | (refine have_hid (p := w6.heap[w5.heap.size]? = some (.cells #[.slice none 0 0, .slice none 0 0, .int .i64 0, .bool false] 25 (0, 0))) ?_ (fun K6 => ?_); (focus (refine Eq.trans (hb6.block _ ?_) ?_; (focus (simp <;> omega)); (focus ((repeat (first | simp only [heap_drew] | simp only [World.heap_drewN] | simp only [heap_alloc_if] | simp only [heap_set_if] | simp only [World.size_alloc] | simp only [size_set] | simp only [World.size_drew])); (repeat (first | rw [if_pos trivial] | rw [if_pos (by omega)] | rw [if_neg (by omega)])); done)))); obtain ⟨⟨s0, s1, s2, s3⟩, ⟨t0, t1, t2, t3⟩⟩ := blk4 (Below.refl _ w6) K6.out (Nat.lt_succ_self _)) | (refine have_hid (p := w6.heap[w5.heap.size + 1]? = some (.cells #[.slice none 0 0, .slice none 0 0, .int .i64 0, .bool false] 25 (0, 0))) ?_ (fun K6 => ?_); (focus (refine Eq.trans (hb6.block _ ?_) ?_; (focus (simp <;> omega)); (focus ((repeat (first | simp only [heap_drew] | simp only [World.heap_drewN] | simp only [heap_alloc_if] | simp only [heap_set_if] | simp only [World.size_alloc] | simp only [size_set] | simp only [World.size_drew])); (repeat (first | rw [if_pos trivial] | rw [if_pos (by omega)] | rw [if_neg (by omega)])); done)))); obtain ⟨⟨s0, s1, s2, s3⟩, ⟨t0, t1, t2, t3⟩⟩ := blk4 (Below.refl _ w6) K6.out (Nat.lt_succ_self _)) | (have K6 : Hid True := trivial))))
    all_goals go_wp2_with fail
    all_goals go_meet
    all_goals (refine ⟨rfl, ?_⟩; show Below _ _ _; repeat (first | exact HB6.out | refine Below.alloc ?_ (by (repeat (first | simp only [World.size_alloc] | simp only [size_set] | simp only [World.size_drew])); omega) _ | refine Below.setCell ?_ (by first | (dsimp only; omega) | omega) _ | refine Below.drew ?_))
  case rest =>
    obtain ⟨rfl, HC⟩ := hcut
    have hbc := HC.out
    have bww5 := bww5.out
    have kpw5 : True := trivial
    have inw5 : True := trivial
    have Bx1_wc := Lib.hid ((hbc.block (w1.heap.size) (by omega)).trans Bx1_w5.out)
    have ltx1_wc : w1.heap.size < wc.heap.size := lt_heap Bx1_wc.out
    have Bx3_wc := Lib.hid ((hbc.block (w2.heap.size) (by omega)).trans Bx3_w5.out)
    have ltx3_wc : w2.heap.size < wc.heap.size := lt_heap Bx3_wc.out
    have Bx5_wc := Lib.hid ((hbc.block (w3.heap.size) (by omega)).trans Bx5_w5.out)
    have ltx5_wc : w3.heap.size < wc.heap.size := lt_heap Bx5_wc.out
    have Dd_wc := Lib.hid (Dd_w5.out.below hbc)
    have Dw_wc := Lib.hid (Dw_w5.out.below hbc)
    have Y4_wc := Lib.hid (Y4_w5.out.below hbc)
    have bwwc := Lib.hid (bww5.trans (hbc.mono bww5.size))
    have szwc : w5.heap.size ≤ wc.heap.size := hbc.size
    clear Bx1_w5 Bx3_w5 Bx5_w5 ltx1_w5 ltx3_w5 ltx5_w5 Dd_w5 Dw_w5 Y4_w5 c0 c1 c2 c3 cf0 cf1 cf2 cf3
    clear kpw5 bww5 inw5 hbc
    obtain ⟨⟨c0, c1, c2, c3⟩, ⟨cf0, cf1, cf2, cf3⟩⟩ := blk4 (Below.refl _ wc) Bx5_wc.out (Nat.lt_succ_self _)
    go_wp2_with fail
    refine nameW fun W6 hW6 => ?_
    have kpW6 : Kp [w3.heap.size, w2.heap.size, w1.heap.size] wc W6 := by rw [hW6.out]; repeat (first | exact Kp.refl _ _ | refine Kp.alloc ?_ _ | refine Kp.setCell ?_ (by simp) _ _ | refine Kp.drew ?_ | refine Kp.drewN ?_ _)
    have bwW6 : Below w.heap.size w W6 := by rw [hW6.out]; repeat (first | exact bwwc.out | refine Below.alloc ?_ (by (repeat (first | simp only [World.size_alloc] | simp only [size_set] | simp only [World.size_drew])); omega) _ | refine Below.setCell ?_ (by first | (dsimp only; omega) | omega) _ | refine Below.drew ?_ | refine below_drewN ?_ _)
    have szW6 : wc.heap.size ≤ W6.heap.size := kpW6.size
    have Bx1_W6 : Hid (W6.heap[w1.heap.size]? = some (.cells #[.slice sA1 zeroD.sectors.length sc1, .slice pA1 zeroD.pending.length pc1, .int .i64 zeroD.left, .bool zeroD.stopped] 25 (0, 0))) := by show _ = _; rw [hW6.out]; (repeat (first | simp only [heap_drew] | simp only [World.heap_drewN] | simp only [heap_alloc_if] | simp only [heap_set_if] | simp only [World.size_alloc] | simp only [size_set] | simp only [World.size_drew])); (repeat (first | rw [if_pos trivial] | rw [if_pos (by omega)] | rw [if_neg (by omega)])); exact Bx1_wc.out
    have ltx1_W6 : w1.heap.size < W6.heap.size := lt_heap Bx1_W6.out
    have Bx3_W6 : Hid (W6.heap[w2.heap.size]? = some (.cells #[.slice sA2 sd.sectors.length sc2, .slice pA2 sd.pending.length pc2, .int .i64 sd.left, .bool sd.stopped] 25 (0, 0))) := by show _ = _; rw [hW6.out]; (repeat (first | simp only [heap_drew] | simp only [World.heap_drewN] | simp only [heap_alloc_if] | simp only [heap_set_if] | simp only [World.size_alloc] | simp only [size_set] | simp only [World.size_drew])); (repeat (first | rw [if_pos trivial] | rw [if_pos (by omega)] | rw [if_neg (by omega)])); exact Bx3_wc.out
    have ltx3_W6 : w2.heap.size < W6.heap.size := lt_heap Bx3_W6.out
    have Bx5_W6 : Hid (W6.heap[w3.heap.size]? = some (.cells #[.slice sA3 sw.sectors.length sc3, .slice pA3 sw.pending.length pc3, .int .i64 sw.left, .bool sw.stopped] 25 (0, 0))) := by show _ = _; rw [hW6.out]; (repeat (first | simp only [heap_drew] | simp only [World.heap_drewN] | simp only [heap_alloc_if] | simp only [heap_set_if] | simp only [World.size_alloc] | simp only [size_set] | simp only [World.size_drew])); (repeat (first | rw [if_pos trivial] | rw [if_pos (by omega)] | rw [if_neg (by omega)])); exact Bx5_wc.out
    have ltx5_W6 : w3.heap.size < W6.heap.size := lt_heap Bx5_W6.out
    have inW6 : InW [w3.heap.size, w2.heap.size, w1.heap.size] W6 := by intro b hb; simp at hb; omega
    have Dd_W6 := Lib.hid ((Dd_wc.out).kp kpW6)
    have Dw_W6 := Lib.hid ((Dw_wc.out).kp kpW6)
    have Y4_W6 := Lib.hid ((Y4_wc.out).kp kpW6)
    clear Bx1_wc Bx3_wc Bx5_wc ltx1_wc ltx3_wc ltx5_wc Dd_wc Dw_wc Y4_wc c0 c1 c2 c3 cf0 cf1 cf2 cf3
    have C7 := Lib.hid (stop_l [w3.heap.size, w2.heap.size, w1.heap.size] W6 sw _ Dw_W6.out 1)
    rw [sane7] at C7
    refine C7.out.mono ?_
    rintro e w7 ⟨v7, rfl, hD7, hb7⟩
    obtain ⟨sA7, sc7, pA7, pc7, rfl, -⟩ := hD7.parts
    have Bx1_w7 := Lib.hid ((hb7.block (w1.heap.size) (by omega)).trans Bx1_W6.out)
    have ltx1_w7 : w1.heap.size < w7.heap.size := lt_heap Bx1_w7.out
    have Bx3_w7 := Lib.hid ((hb7.block (w2.heap.size) (by omega)).trans Bx3_W6.out)
    have ltx3_w7 : w2.heap.size < w7.heap.size := lt_heap Bx3_w7.out
    have Bx5_w7 := Lib.hid ((hb7.block (w3.heap.size) (by omega)).trans Bx5_W6.out)
    have ltx5_w7 : w3.heap.size < w7.heap.size := lt_heap Bx5_w7.out
    have Dd_w7 := Lib.hid (Dd_W6.out.below hb7)
    have Dw_w7 := Lib.hid (Dw_W6.out.below hb7)
    have Y4_w7 := Lib.hid (Y4_W6.out.below hb7)
    have bww7 := Lib.hid (bwW6.trans (hb7.mono bwW6.size))
    have szw7 : W6.heap.size ≤ w7.heap.size := hb7.size
    clear Bx1_W6 Bx3_W6 Bx5_W6 ltx1_W6 ltx3_W6 ltx5_W6 Dd_W6 Dw_W6 Y4_W6
    clear kpW6 bwW6 inW6 hb7
    have Ds_w7 := Lib.hid hD7
    clear hD7 C7
    go_wp2_with fail
    refine nameW fun W7 hW7 => ?_
    have kpW7 : Kp [w7.heap.size, w3.heap.size, w2.heap.size, w1.heap.size] w7 W7 := by rw [hW7.out]; repeat (first | exact Kp.refl _ _ | refine Kp.alloc ?_ _ | refine Kp.setCell ?_ (by simp) _ _ | refine Kp.drew ?_ | refine Kp.drewN ?_ _)
    have bwW7 : Below w.heap.size w W7 := by rw [hW7.out]; repeat (first | exact bww7.out | refine Below.alloc ?_ (by (repeat (first | simp only [World.size_alloc] | simp only [size_set] | simp only [World.size_drew])); omega) _ | refine Below.setCell ?_ (by first | (dsimp only; omega) | omega) _ | refine Below.drew ?_ | refine below_drewN ?_ _)
    have szW7 : w7.heap.size ≤ W7.heap.size := kpW7.size
    have Bx13_W7 : Hid (W7.heap[w7.heap.size]? = some (.cells #[.slice sA7 ss1.sectors.length sc7, .slice pA7 ss1.pending.length pc7, .int .i64 ss1.left, .bool ss1.stopped] 25 (0, 0))) := by show _ = _; rw [hW7.out]; (repeat (first | simp only [heap_drew] | simp only [World.heap_drewN] | simp only [heap_alloc_if] | simp only [heap_set_if] | simp only [World.size_alloc] | simp only [size_set] | simp only [World.size_drew])); (repeat (first | rw [if_pos trivial] | rw [if_pos (by omega)] | rw [if_neg (by omega)]))
    have ltx13_W7 : w7.heap.size < W7.heap.size := lt_heap Bx13_W7.out
    have mkx13 : w7.heap.size < W7.heap.size := ltx13_W7
    have Bx1_W7 : Hid (W7.heap[w1.heap.size]? = some (.cells #[.slice sA1 zeroD.sectors.length sc1, .slice pA1 zeroD.pending.length pc1, .int .i64 zeroD.left, .bool zeroD.stopped] 25 (0, 0))) := by show _ = _; rw [hW7.out]; (repeat (first | simp only [heap_drew] | simp only [World.heap_drewN] | simp only [heap_alloc_if] | simp only [heap_set_if] | simp only [World.size_alloc] | simp only [size_set] | simp only [World.size_drew])); (repeat (first | rw [if_pos trivial] | rw [if_pos (by omega)] | rw [if_neg (by omega)])); exact Bx1_w7.out
    have ltx1_W7 : w1.heap.size < W7.heap.size := lt_heap Bx1_W7.out
    have Bx3_W7 : Hid (W7.heap[w2.heap.size]? = some (.cells #[.slice sA2 sd.sectors.length sc2, .slice pA2 sd.pending.length pc2, .int .i64 sd.left, .bool sd.stopped] 25 (0, 0))) := by show _ = _; rw [hW7.out]; (repeat (first | simp only [heap_drew] | simp only [World.heap_drewN] | simp only [heap_alloc_if] | simp only [heap_set_if] | simp only [World.size_alloc] | simp only [size_set] | simp only [World.size_drew])); (repeat (first | rw [if_pos trivial] | rw [if_pos (by omega)] | rw [if_neg (by omega)])); exact Bx3_w7.out
    have ltx3_W7 : w2.heap.size < W7.heap.size := lt_heap Bx3_W7.out
    have Bx5_W7 : Hid (W7.heap[w3.heap.size]? = some (.cells #[.slice sA3 sw.sectors.length sc3, .slice pA3 sw.pending.length pc3, .int .i64 sw.left, .bool sw.stopped] 25 (0, 0))) := by show _ = _; rw [hW7.out]; (repeat (first | simp only [heap_drew] | simp only [World.heap_drewN] | simp only [heap_alloc_if] | simp only [heap_set_if] | simp only [World.size_alloc] | simp only [size_set] | simp only [World.size_drew])); (repeat (first | rw [if_pos trivial] | rw [if_pos (by omega)] | rw [if_neg (by omega)])); exact Bx5_w7.out
    have ltx5_W7 : w3.heap.size < W7.heap.size := lt_heap Bx5_W7.out
    have inW7 : InW [w7.heap.size, w3.heap.size, w2.heap.size, w1.heap.size] W7 := by intro b hb; simp at hb; omega
    have Dd_W7 := Lib.hid (((Dd_w7.out).box (by omega)).kp kpW7)
    have Dw_W7 := Lib.hid (((Dw_w7.out).box (by omega)).kp kpW7)
    have Y4_W7 := Lib.hid (((Y4_w7.out).box (by omega)).kp kpW7)
    have Ds_W7 := Lib.hid (((Ds_w7.out).box (by omega)).kp kpW7)
    clear Bx1_w7 Bx3_w7 Bx5_w7 ltx1_w7 ltx3_w7 ltx5_w7 Dd_w7 Dw_w7 Y4_w7 Ds_w7
    have y8 := Lib.hid (bytes_one (M := NB [w7.heap.size, w3.heap.size, w2.heap.size, w1.heap.size]) (t := 5) (x := 8) (show W7.heap[w7.heap.size + 1]? = _ by rw [hW7.out]; (repeat (first | simp only [heap_drew] | simp only [World.heap_drewN] | simp only [heap_alloc_if] | simp only [heap_set_if] | simp only [World.size_alloc] | simp only [size_set] | simp only [World.size_drew])); (repeat (first | rw [if_pos trivial] | rw [if_pos (by omega)] | rw [if_neg (by omega)])); rfl) (by simp [NB]; omega))
    have C8 := Lib.hid (write_l [w7.heap.size, w3.heap.size, w2.heap.size, w1.heap.size] W7 inW7 ss1 _ Ds_W7.out 0 [8] _ y8.out)
    rw [sane8] at C8
    refine C8.out.mono ?_
    rintro e w8 ⟨v8, rfl, hD8, hb8⟩
    obtain ⟨sA8, sc8, pA8, pc8, rfl, -⟩ := hD8.parts
    have Bx1_w8 := Lib.hid ((hb8.block (w1.heap.size) (by omega)).trans Bx1_W7.out)
    have ltx1_w8 : w1.heap.size < w8.heap.size := lt_heap Bx1_w8.out
    have Bx3_w8 := Lib.hid ((hb8.block (w2.heap.size) (by omega)).trans Bx3_W7.out)
    have ltx3_w8 : w2.heap.size < w8.heap.size := lt_heap Bx3_w8.out
    have Bx5_w8 := Lib.hid ((hb8.block (w3.heap.size) (by omega)).trans Bx5_W7.out)
    have ltx5_w8 : w3.heap.size < w8.heap.size := lt_heap Bx5_w8.out
    have Bx13_w8 := Lib.hid ((hb8.block (w7.heap.size) (by omega)).trans Bx13_W7.out)
    have ltx13_w8 : w7.heap.size < w8.heap.size := lt_heap Bx13_w8.out
    have Dd_w8 := Lib.hid (Dd_W7.out.below hb8)
    have Dw_w8 := Lib.hid (Dw_W7.out.below hb8)
    have Y4_w8 := Lib.hid (Y4_W7.out.below hb8)
    have Ds_w8 := Lib.hid (Ds_W7.out.below hb8)
    have bww8 := Lib.hid (bwW7.trans (hb8.mono bwW7.size))
    have szw8 : W7.heap.size ≤ w8.heap.size := hb8.size
    clear Bx1_W7 Bx3_W7 Bx5_W7 Bx13_W7 ltx1_W7 ltx3_W7 ltx5_W7 ltx13_W7 Dd_W7 Dw_W7 Y4_W7 Ds_W7
    clear kpW7 bwW7 inW7 hb8
    have Dt_w8 := Lib.hid hD8
    clear hD8 C8
    clear y8
    obtain ⟨⟨c0, c1, c2, c3⟩, ⟨cf0, cf1, cf2, cf3⟩⟩ := blk4 (Below.refl _ w8) Bx13_w8.out (Nat.lt_succ_self _)
    go_wp2_with fail
    refine nameW fun W8 hW8 => ?_
    have kpW8 : Kp [w7.heap.size, w3.heap.size, w2.heap.size, w1.heap.size] w8 W8 := by rw [hW8.out]; repeat (first | exact Kp.refl _ _ | refine Kp.alloc ?_ _ | refine Kp.setCell ?_ (by simp) _ _ | refine Kp.drew ?_ | refine Kp.drewN ?_ _)
    have bwW8 : Below w.heap.size w W8 := by rw [hW8.out]; repeat (first | exact bww8.out | refine Below.alloc ?_ (by (repeat (first | simp only [World.size_alloc] | simp only [size_set] | simp only [World.size_drew])); omega) _ | refine Below.setCell ?_ (by first | (dsimp only; omega) | omega) _ | refine Below.drew ?_ | refine below_drewN ?_ _)
    have szW8 : w8.heap.size ≤ W8.heap.size := kpW8.size
    have Bx1_W8 : Hid (W8.heap[w1.heap.size]? = some (.cells #[.slice sA1 zeroD.sectors.length sc1, .slice pA1 zeroD.pending.length pc1, .int .i64 zeroD.left, .bool zeroD.stopped] 25 (0, 0))) := by show _ = _; rw [hW8.out]; (repeat (first | simp only [heap_drew] | simp only [World.heap_drewN] | simp only [heap_alloc_if] | simp only [heap_set_if] | simp only [World.size_alloc] | simp only [size_set] | simp only [World.size_drew])); (repeat (first | rw [if_pos trivial] | rw [if_pos (by omega)] | rw [if_neg (by omega)])); exact Bx1_w8.out
    have ltx1_W8 : w1.heap.size < W8.heap.size := lt_heap Bx1_W8.out
    have Bx3_W8 : Hid (W8.heap[w2.heap.size]? = some (.cells #[.slice sA2 sd.sectors.length sc2, .slice pA2 sd.pending.length pc2, .int .i64 sd.left, .bool sd.stopped] 25 (0, 0))) := by show _ = _; rw [hW8.out]; (repeat (first | simp only [heap_drew] | simp only [World.heap_drewN] | simp only [heap_alloc_if] | simp only [heap_set_if] | simp only [World.size_alloc] | simp only [size_set] | simp only [World.size_drew])); (repeat (first | rw [if_pos trivial] | rw [if_pos (by omega)] | rw [if_neg (by omega)])); exact Bx3_w8.out
    have ltx3_W8 : w2.heap.size < W8.heap.size := lt_heap Bx3_W8.out
    have Bx5_W8 : Hid (W8.heap[w3.heap.size]? = some (.cells #[.slice sA3 sw.sectors.length sc3, .slice pA3 sw.pending.length pc3, .int .i64 sw.left, .bool sw.stopped] 25 (0, 0))) := by show _ = _; rw [hW8.out]; (repeat (first | simp only [heap_drew] | simp only [World.heap_drewN] | simp only [heap_alloc_if] | simp only [heap_set_if] | simp only [World.size_alloc] | simp only [size_set] | simp only [World.size_drew])); (repeat (first | rw [if_pos trivial] | rw [if_pos (by omega)] | rw [if_neg (by omega)])); exact Bx5_w8.out
    have ltx5_W8 : w3.heap.size < W8.heap.size := lt_heap Bx5_W8.out
    have Bx13_W8 : Hid (W8.heap[w7.heap.size]? = some (.cells #[.slice sA8 ss2.sectors.length sc8, .slice pA8 ss2.pending.length pc8, .int .i64 ss2.left, .bool ss2.stopped] 25 (0, 0))) := by show _ = _; rw [hW8.out]; exact set4 Bx13_w8.out _ _ _ _
    have ltx13_W8 : w7.heap.size < W8.heap.size := lt_heap Bx13_W8.out
    have inW8 : InW [w7.heap.size, w3.heap.size, w2.heap.size, w1.heap.size] W8 := by intro b hb; simp at hb; omega
    have Dd_W8 := Lib.hid ((Dd_w8.out).kp kpW8)
    have Dw_W8 := Lib.hid ((Dw_w8.out).kp kpW8)
    have Y4_W8 := Lib.hid ((Y4_w8.out).kp kpW8)
    have Ds_W8 := Lib.hid ((Ds_w8.out).kp kpW8)
    have Dt_W8 := Lib.hid ((Dt_w8.out).kp kpW8)
    clear Bx1_w8 Bx3_w8 Bx5_w8 Bx13_w8 ltx1_w8 ltx3_w8 ltx5_w8 ltx13_w8 Dd_w8 Dw_w8 Y4_w8 Ds_w8 Dt_w8 c0 c1 c2 c3 cf0 cf1 cf2 cf3
    have C9 := Lib.hid (sync_l [w7.heap.size, w3.heap.size, w2.heap.size, w1.heap.size] W8 inW8 ss2 _ Dt_W8.out)
    rw [sane9] at C9
    refine C9.out.mono ?_
    rintro e w9 ⟨v9, rfl, hD9, hb9⟩
    obtain ⟨sA9, sc9, pA9, pc9, rfl, -⟩ := hD9.parts
    have Bx1_w9 := Lib.hid ((hb9.block (w1.heap.size) (by omega)).trans Bx1_W8.out)
    have ltx1_w9 : w1.heap.size < w9.heap.size := lt_heap Bx1_w9.out
    have Bx3_w9 := Lib.hid ((hb9.block (w2.heap.size) (by omega)).trans Bx3_W8.out)
    have ltx3_w9 : w2.heap.size < w9.heap.size := lt_heap Bx3_w9.out
    have Bx5_w9 := Lib.hid ((hb9.block (w3.heap.size) (by omega)).trans Bx5_W8.out)
    have ltx5_w9 : w3.heap.size < w9.heap.size := lt_heap Bx5_w9.out
    have Bx13_w9 := Lib.hid ((hb9.block (w7.heap.size) (by omega)).trans Bx13_W8.out)
    have ltx13_w9 : w7.heap.size < w9.heap.size := lt_heap Bx13_w9.out
    have Dd_w9 := Lib.hid (Dd_W8.out.below hb9)
    have Dw_w9 := Lib.hid (Dw_W8.out.below hb9)
    have Y4_w9 := Lib.hid (Y4_W8.out.below hb9)
    have Ds_w9 := Lib.hid (Ds_W8.out.below hb9)
    have Dt_w9 := Lib.hid (Dt_W8.out.below hb9)
    have bww9 := Lib.hid (bwW8.trans (hb9.mono bwW8.size))
    have szw9 : W8.heap.size ≤ w9.heap.size := hb9.size
    clear Bx1_W8 Bx3_W8 Bx5_W8 Bx13_W8 ltx1_W8 ltx3_W8 ltx5_W8 ltx13_W8 Dd_W8 Dw_W8 Y4_W8 Ds_W8 Dt_W8
    clear kpW8 bwW8 inW8 hb9
    have Dx_w9 := Lib.hid hD9
    clear hD9 C9
    have hst : sx.stopped = true := rfl
    have hb7 : b7.length = 128 := rfl
    have hz7 : zs128.length = 128 := rfl
    go_wp2_with fail
    refine nameW fun W9 hW9 => ?_
    have kpW9 : Kp [w9.heap.size, w7.heap.size, w3.heap.size, w2.heap.size, w1.heap.size] w9 W9 := by rw [hW9.out]; repeat (first | exact Kp.refl _ _ | refine Kp.alloc ?_ _ | refine Kp.setCell ?_ (by simp) _ _ | refine Kp.drew ?_ | refine Kp.drewN ?_ _)
    have bwW9 : Below w.heap.size w W9 := by rw [hW9.out]; repeat (first | exact bww9.out | refine Below.alloc ?_ (by (repeat (first | simp only [World.size_alloc] | simp only [size_set] | simp only [World.size_drew])); omega) _ | refine Below.setCell ?_ (by first | (dsimp only; omega) | omega) _ | refine Below.drew ?_ | refine below_drewN ?_ _)
    have szW9 : w9.heap.size ≤ W9.heap.size := kpW9.size
    have Bx16_W9 : Hid (W9.heap[w9.heap.size]? = some (.cells #[.slice sA9 sx.sectors.length sc9, .slice pA9 sx.pending.length pc9, .int .i64 sx.left, .bool true] 25 (0, 0))) := by show _ = _; rw [hW9.out]; (repeat (first | simp only [heap_drew] | simp only [World.heap_drewN] | simp only [heap_alloc_if] | simp only [heap_set_if] | simp only [World.size_alloc] | simp only [size_set] | simp only [World.size_drew])); (repeat (first | rw [if_pos trivial] | rw [if_pos (by omega)] | rw [if_neg (by omega)]))
    have ltx16_W9 : w9.heap.size < W9.heap.size := lt_heap Bx16_W9.out
    have mkx16 : w9.heap.size < W9.heap.size := ltx16_W9
    have Bx1_W9 : Hid (W9.heap[w1.heap.size]? = some (.cells #[.slice sA1 zeroD.sectors.length sc1, .slice pA1 zeroD.pending.length pc1, .int .i64 zeroD.left, .bool zeroD.stopped] 25 (0, 0))) := by show _ = _; rw [hW9.out]; (repeat (first | simp only [heap_drew] | simp only [World.heap_drewN] | simp only [heap_alloc_if] | simp only [heap_set_if] | simp only [World.size_alloc] | simp only [size_set] | simp only [World.size_drew])); (repeat (first | rw [if_pos trivial] | rw [if_pos (by omega)] | rw [if_neg (by omega)])); exact Bx1_w9.out
    have ltx1_W9 : w1.heap.size < W9.heap.size := lt_heap Bx1_W9.out
    have Bx3_W9 : Hid (W9.heap[w2.heap.size]? = some (.cells #[.slice sA2 sd.sectors.length sc2, .slice pA2 sd.pending.length pc2, .int .i64 sd.left, .bool sd.stopped] 25 (0, 0))) := by show _ = _; rw [hW9.out]; (repeat (first | simp only [heap_drew] | simp only [World.heap_drewN] | simp only [heap_alloc_if] | simp only [heap_set_if] | simp only [World.size_alloc] | simp only [size_set] | simp only [World.size_drew])); (repeat (first | rw [if_pos trivial] | rw [if_pos (by omega)] | rw [if_neg (by omega)])); exact Bx3_w9.out
    have ltx3_W9 : w2.heap.size < W9.heap.size := lt_heap Bx3_W9.out
    have Bx5_W9 : Hid (W9.heap[w3.heap.size]? = some (.cells #[.slice sA3 sw.sectors.length sc3, .slice pA3 sw.pending.length pc3, .int .i64 sw.left, .bool sw.stopped] 25 (0, 0))) := by show _ = _; rw [hW9.out]; (repeat (first | simp only [heap_drew] | simp only [World.heap_drewN] | simp only [heap_alloc_if] | simp only [heap_set_if] | simp only [World.size_alloc] | simp only [size_set] | simp only [World.size_drew])); (repeat (first | rw [if_pos trivial] | rw [if_pos (by omega)] | rw [if_neg (by omega)])); exact Bx5_w9.out
    have ltx5_W9 : w3.heap.size < W9.heap.size := lt_heap Bx5_W9.out
    have Bx13_W9 : Hid (W9.heap[w7.heap.size]? = some (.cells #[.slice sA8 ss2.sectors.length sc8, .slice pA8 ss2.pending.length pc8, .int .i64 ss2.left, .bool ss2.stopped] 25 (0, 0))) := by show _ = _; rw [hW9.out]; (repeat (first | simp only [heap_drew] | simp only [World.heap_drewN] | simp only [heap_alloc_if] | simp only [heap_set_if] | simp only [World.size_alloc] | simp only [size_set] | simp only [World.size_drew])); (repeat (first | rw [if_pos trivial] | rw [if_pos (by omega)] | rw [if_neg (by omega)])); exact Bx13_w9.out
    have ltx13_W9 : w7.heap.size < W9.heap.size := lt_heap Bx13_W9.out
    have inW9 : InW [w9.heap.size, w7.heap.size, w3.heap.size, w2.heap.size, w1.heap.size] W9 := by intro b hb; simp at hb; omega
    have Dd_W9 := Lib.hid (((Dd_w9.out).box (by omega)).kp kpW9)
    have Dw_W9 := Lib.hid (((Dw_w9.out).box (by omega)).kp kpW9)
    have Y4_W9 := Lib.hid (((Y4_w9.out).box (by omega)).kp kpW9)
    have Ds_W9 := Lib.hid (((Ds_w9.out).box (by omega)).kp kpW9)
    have Dt_W9 := Lib.hid (((Dt_w9.out).box (by omega)).kp kpW9)
    have Dx_W9 := Lib.hid (((Dx_w9.out).box (by omega)).kp kpW9)
    clear Bx1_w9 Bx3_w9 Bx5_w9 Bx13_w9 ltx1_w9 ltx3_w9 ltx5_w9 ltx13_w9 Dd_w9 Dw_w9 Y4_w9 Ds_w9 Dt_w9 Dx_w9
    have HST := Lib.hid hst
    clear hst
    have C10 := Lib.hid (restart_l [w9.heap.size, w7.heap.size, w3.heap.size, w2.heap.size, w1.heap.size] W9 sx _ Dx_W9.out)
    rw [sane10] at C10
    refine C10.out.mono ?_
    rintro e w10 ⟨v10, rfl, hD10, hb10⟩
    obtain ⟨sA10, sc10, pA10, pc10, rfl, -⟩ := hD10.parts
    have Bx1_w10 := Lib.hid ((hb10.block (w1.heap.size) (by omega)).trans Bx1_W9.out)
    have ltx1_w10 : w1.heap.size < w10.heap.size := lt_heap Bx1_w10.out
    have Bx3_w10 := Lib.hid ((hb10.block (w2.heap.size) (by omega)).trans Bx3_W9.out)
    have ltx3_w10 : w2.heap.size < w10.heap.size := lt_heap Bx3_w10.out
    have Bx5_w10 := Lib.hid ((hb10.block (w3.heap.size) (by omega)).trans Bx5_W9.out)
    have ltx5_w10 : w3.heap.size < w10.heap.size := lt_heap Bx5_w10.out
    have Bx13_w10 := Lib.hid ((hb10.block (w7.heap.size) (by omega)).trans Bx13_W9.out)
    have ltx13_w10 : w7.heap.size < w10.heap.size := lt_heap Bx13_w10.out
    have Bx16_w10 := Lib.hid ((hb10.block (w9.heap.size) (by omega)).trans Bx16_W9.out)
    have ltx16_w10 : w9.heap.size < w10.heap.size := lt_heap Bx16_w10.out
    have Dd_w10 := Lib.hid (Dd_W9.out.below hb10)
    have Dw_w10 := Lib.hid (Dw_W9.out.below hb10)
    have Y4_w10 := Lib.hid (Y4_W9.out.below hb10)
    have Ds_w10 := Lib.hid (Ds_W9.out.below hb10)
    have Dt_w10 := Lib.hid (Dt_W9.out.below hb10)
    have Dx_w10 := Lib.hid (Dx_W9.out.below hb10)
    have bww10 := Lib.hid (bwW9.trans (hb10.mono bwW9.size))
    have szw10 : W9.heap.size ≤ w10.heap.size := hb10.size
    clear Bx1_W9 Bx3_W9 Bx5_W9 Bx13_W9 Bx16_W9 ltx1_W9 ltx3_W9 ltx5_W9 ltx13_W9 ltx16_W9 Dd_W9 Dw_W9 Y4_W9 Ds_W9 Dt_W9 Dx_W9
    clear kpW9 bwW9 inW9 hb10
    have Dy_w10 := Lib.hid hD10
    clear hD10 C10
    obtain ⟨⟨c0, c1, c2, c3⟩, ⟨cf0, cf1, cf2, cf3⟩⟩ := blk4 (Below.refl _ w10) Bx16_w10.out (Nat.lt_succ_self _)
    go_wp2_with fail
    refine nameW fun W10 hW10 => ?_
    have kpW10 : Kp [w9.heap.size, w7.heap.size, w3.heap.size, w2.heap.size, w1.heap.size] w10 W10 := by rw [hW10.out]; repeat (first | exact Kp.refl _ _ | refine Kp.alloc ?_ _ | refine Kp.setCell ?_ (by simp) _ _ | refine Kp.drew ?_ | refine Kp.drewN ?_ _)
    have bwW10 : Below w.heap.size w W10 := by rw [hW10.out]; repeat (first | exact bww10.out | refine Below.alloc ?_ (by (repeat (first | simp only [World.size_alloc] | simp only [size_set] | simp only [World.size_drew])); omega) _ | refine Below.setCell ?_ (by first | (dsimp only; omega) | omega) _ | refine Below.drew ?_ | refine below_drewN ?_ _)
    have szW10 : w10.heap.size ≤ W10.heap.size := kpW10.size
    have Bx1_W10 : Hid (W10.heap[w1.heap.size]? = some (.cells #[.slice sA1 zeroD.sectors.length sc1, .slice pA1 zeroD.pending.length pc1, .int .i64 zeroD.left, .bool zeroD.stopped] 25 (0, 0))) := by show _ = _; rw [hW10.out]; (repeat (first | simp only [heap_drew] | simp only [World.heap_drewN] | simp only [heap_alloc_if] | simp only [heap_set_if] | simp only [World.size_alloc] | simp only [size_set] | simp only [World.size_drew])); (repeat (first | rw [if_pos trivial] | rw [if_pos (by omega)] | rw [if_neg (by omega)])); exact Bx1_w10.out
    have ltx1_W10 : w1.heap.size < W10.heap.size := lt_heap Bx1_W10.out
    have Bx3_W10 : Hid (W10.heap[w2.heap.size]? = some (.cells #[.slice sA2 sd.sectors.length sc2, .slice pA2 sd.pending.length pc2, .int .i64 sd.left, .bool sd.stopped] 25 (0, 0))) := by show _ = _; rw [hW10.out]; (repeat (first | simp only [heap_drew] | simp only [World.heap_drewN] | simp only [heap_alloc_if] | simp only [heap_set_if] | simp only [World.size_alloc] | simp only [size_set] | simp only [World.size_drew])); (repeat (first | rw [if_pos trivial] | rw [if_pos (by omega)] | rw [if_neg (by omega)])); exact Bx3_w10.out
    have ltx3_W10 : w2.heap.size < W10.heap.size := lt_heap Bx3_W10.out
    have Bx5_W10 : Hid (W10.heap[w3.heap.size]? = some (.cells #[.slice sA3 sw.sectors.length sc3, .slice pA3 sw.pending.length pc3, .int .i64 sw.left, .bool sw.stopped] 25 (0, 0))) := by show _ = _; rw [hW10.out]; (repeat (first | simp only [heap_drew] | simp only [World.heap_drewN] | simp only [heap_alloc_if] | simp only [heap_set_if] | simp only [World.size_alloc] | simp only [size_set] | simp only [World.size_drew])); (repeat (first | rw [if_pos trivial] | rw [if_pos (by omega)] | rw [if_neg (by omega)])); exact Bx5_w10.out
    have ltx5_W10 : w3.heap.size < W10.heap.size := lt_heap Bx5_W10.out
    have Bx13_W10 : Hid (W10.heap[w7.heap.size]? = some (.cells #[.slice sA8 ss2.sectors.length sc8, .slice pA8 ss2.pending.length pc8, .int .i64 ss2.left, .bool ss2.stopped] 25 (0, 0))) := by show _ = _; rw [hW10.out]; (repeat (first | simp only [heap_drew] | simp only [World.heap_drewN] | simp only [heap_alloc_if] | simp only [heap_set_if] | simp only [World.size_alloc] | simp only [size_set] | simp only [World.size_drew])); (repeat (first | rw [if_pos trivial] | rw [if_pos (by omega)] | rw [if_neg (by omega)])); exact Bx13_w10.out
    have ltx13_W10 : w7.heap.size < W10.heap.size := lt_heap Bx13_W10.out
    have Bx16_W10 : Hid (W10.heap[w9.heap.size]? = some (.cells #[.slice sA10 sy.sectors.length sc10, .slice pA10 sy.pending.length pc10, .int .i64 sy.left, .bool sy.stopped] 25 (0, 0))) := by show _ = _; rw [hW10.out]; exact set4 Bx16_w10.out _ _ _ _
    have ltx16_W10 : w9.heap.size < W10.heap.size := lt_heap Bx16_W10.out
    have inW10 : InW [w9.heap.size, w7.heap.size, w3.heap.size, w2.heap.size, w1.heap.size] W10 := by intro b hb; simp at hb; omega
    have Dd_W10 := Lib.hid ((Dd_w10.out).kp kpW10)
    have Dw_W10 := Lib.hid ((Dw_w10.out).kp kpW10)
    have Y4_W10 := Lib.hid ((Y4_w10.out).kp kpW10)
    have Ds_W10 := Lib.hid ((Ds_w10.out).kp kpW10)
    have Dt_W10 := Lib.hid ((Dt_w10.out).kp kpW10)
    have Dx_W10 := Lib.hid ((Dx_w10.out).kp kpW10)
    have Dy_W10 := Lib.hid ((Dy_w10.out).kp kpW10)
    clear Bx1_w10 Bx3_w10 Bx5_w10 Bx13_w10 Bx16_w10 ltx1_w10 ltx3_w10 ltx5_w10 ltx13_w10 ltx16_w10 Dd_w10 Dw_w10 Y4_w10 Ds_w10 Dt_w10 Dx_w10 Dy_w10 c0 c1 c2 c3 cf0 cf1 cf2 cf3
    have C11 := Lib.hid (read_l [w9.heap.size, w7.heap.size, w3.heap.size, w2.heap.size, w1.heap.size] W10 sy _ Dy_W10.out 1)
    rw [sane11] at C11
    refine C11.out.mono ?_
    rintro e w11 ⟨v11, rfl, ⟨A11, c11, rfl, hD11⟩, hb11⟩
    have Bx1_w11 := Lib.hid ((hb11.block (w1.heap.size) (by omega)).trans Bx1_W10.out)
    have ltx1_w11 : w1.heap.size < w11.heap.size := lt_heap Bx1_w11.out
    have Bx3_w11 := Lib.hid ((hb11.block (w2.heap.size) (by omega)).trans Bx3_W10.out)
    have ltx3_w11 : w2.heap.size < w11.heap.size := lt_heap Bx3_w11.out
    have Bx5_w11 := Lib.hid ((hb11.block (w3.heap.size) (by omega)).trans Bx5_W10.out)
    have ltx5_w11 : w3.heap.size < w11.heap.size := lt_heap Bx5_w11.out
    have Bx13_w11 := Lib.hid ((hb11.block (w7.heap.size) (by omega)).trans Bx13_W10.out)
    have ltx13_w11 : w7.heap.size < w11.heap.size := lt_heap Bx13_w11.out
    have Bx16_w11 := Lib.hid ((hb11.block (w9.heap.size) (by omega)).trans Bx16_W10.out)
    have ltx16_w11 : w9.heap.size < w11.heap.size := lt_heap Bx16_w11.out
    have Dd_w11 := Lib.hid (Dd_W10.out.below hb11)
    have Dw_w11 := Lib.hid (Dw_W10.out.below hb11)
    have Y4_w11 := Lib.hid (Y4_W10.out.below hb11)
    have Ds_w11 := Lib.hid (Ds_W10.out.below hb11)
    have Dt_w11 := Lib.hid (Dt_W10.out.below hb11)
    have Dx_w11 := Lib.hid (Dx_W10.out.below hb11)
    have Dy_w11 := Lib.hid (Dy_W10.out.below hb11)
    have bww11 := Lib.hid (bwW10.trans (hb11.mono bwW10.size))
    have szw11 : W10.heap.size ≤ w11.heap.size := hb11.size
    clear Bx1_W10 Bx3_W10 Bx5_W10 Bx13_W10 Bx16_W10 ltx1_W10 ltx3_W10 ltx5_W10 ltx13_W10 ltx16_W10 Dd_W10 Dw_W10 Y4_W10 Ds_W10 Dt_W10 Dx_W10 Dy_W10
    clear kpW10 bwW10 inW10 hb11
    have Y11_w11 : Hid (IsBytes w11 (NB [w9.heap.size, w7.heap.size, w3.heap.size, w2.heap.size, w1.heap.size]) (.slice A11 128 c11) _) := ⟨A11, c11, rfl, hD11⟩
    clear hD11 C11
    obtain ⟨⟨c0, c1, c2, c3⟩, ⟨cf0, cf1, cf2, cf3⟩⟩ := blk4 (Below.refl _ w11) Bx16_w11.out (Nat.lt_succ_self _)
    go_wp2_with fail
    refine nameW fun W11 hW11 => ?_
    have kpW11 : Kp [w9.heap.size, w7.heap.size, w3.heap.size, w2.heap.size, w1.heap.size] w11 W11 := by rw [hW11.out]; repeat (first | exact Kp.refl _ _ | refine Kp.alloc ?_ _ | refine Kp.setCell ?_ (by simp) _ _ | refine Kp.drew ?_ | refine Kp.drewN ?_ _)
    have bwW11 : Below w.heap.size w W11 := by rw [hW11.out]; repeat (first | exact bww11.out | refine Below.alloc ?_ (by (repeat (first | simp only [World.size_alloc] | simp only [size_set] | simp only [World.size_drew])); omega) _ | refine Below.setCell ?_ (by first | (dsimp only; omega) | omega) _ | refine Below.drew ?_ | refine below_drewN ?_ _)
    have szW11 : w11.heap.size ≤ W11.heap.size := kpW11.size
    have Bx1_W11 : Hid (W11.heap[w1.heap.size]? = some (.cells #[.slice sA1 zeroD.sectors.length sc1, .slice pA1 zeroD.pending.length pc1, .int .i64 zeroD.left, .bool zeroD.stopped] 25 (0, 0))) := by show _ = _; rw [hW11.out]; (repeat (first | simp only [heap_drew] | simp only [World.heap_drewN] | simp only [heap_alloc_if] | simp only [heap_set_if] | simp only [World.size_alloc] | simp only [size_set] | simp only [World.size_drew])); (repeat (first | rw [if_pos trivial] | rw [if_pos (by omega)] | rw [if_neg (by omega)])); exact Bx1_w11.out
    have ltx1_W11 : w1.heap.size < W11.heap.size := lt_heap Bx1_W11.out
    have Bx3_W11 : Hid (W11.heap[w2.heap.size]? = some (.cells #[.slice sA2 sd.sectors.length sc2, .slice pA2 sd.pending.length pc2, .int .i64 sd.left, .bool sd.stopped] 25 (0, 0))) := by show _ = _; rw [hW11.out]; (repeat (first | simp only [heap_drew] | simp only [World.heap_drewN] | simp only [heap_alloc_if] | simp only [heap_set_if] | simp only [World.size_alloc] | simp only [size_set] | simp only [World.size_drew])); (repeat (first | rw [if_pos trivial] | rw [if_pos (by omega)] | rw [if_neg (by omega)])); exact Bx3_w11.out
    have ltx3_W11 : w2.heap.size < W11.heap.size := lt_heap Bx3_W11.out
    have Bx5_W11 : Hid (W11.heap[w3.heap.size]? = some (.cells #[.slice sA3 sw.sectors.length sc3, .slice pA3 sw.pending.length pc3, .int .i64 sw.left, .bool sw.stopped] 25 (0, 0))) := by show _ = _; rw [hW11.out]; (repeat (first | simp only [heap_drew] | simp only [World.heap_drewN] | simp only [heap_alloc_if] | simp only [heap_set_if] | simp only [World.size_alloc] | simp only [size_set] | simp only [World.size_drew])); (repeat (first | rw [if_pos trivial] | rw [if_pos (by omega)] | rw [if_neg (by omega)])); exact Bx5_w11.out
    have ltx5_W11 : w3.heap.size < W11.heap.size := lt_heap Bx5_W11.out
    have Bx13_W11 : Hid (W11.heap[w7.heap.size]? = some (.cells #[.slice sA8 ss2.sectors.length sc8, .slice pA8 ss2.pending.length pc8, .int .i64 ss2.left, .bool ss2.stopped] 25 (0, 0))) := by show _ = _; rw [hW11.out]; (repeat (first | simp only [heap_drew] | simp only [World.heap_drewN] | simp only [heap_alloc_if] | simp only [heap_set_if] | simp only [World.size_alloc] | simp only [size_set] | simp only [World.size_drew])); (repeat (first | rw [if_pos trivial] | rw [if_pos (by omega)] | rw [if_neg (by omega)])); exact Bx13_w11.out
    have ltx13_W11 : w7.heap.size < W11.heap.size := lt_heap Bx13_W11.out
    have Bx16_W11 : Hid (W11.heap[w9.heap.size]? = some (.cells #[.slice sA10 sy.sectors.length sc10, .slice pA10 sy.pending.length pc10, .int .i64 sy.left, .bool sy.stopped] 25 (0, 0))) := by show _ = _; rw [hW11.out]; (repeat (first | simp only [heap_drew] | simp only [World.heap_drewN] | simp only [heap_alloc_if] | simp only [heap_set_if] | simp only [World.size_alloc] | simp only [size_set] | simp only [World.size_drew])); (repeat (first | rw [if_pos trivial] | rw [if_pos (by omega)] | rw [if_neg (by omega)])); exact Bx16_w11.out
    have ltx16_W11 : w9.heap.size < W11.heap.size := lt_heap Bx16_W11.out
    have inW11 : InW [w9.heap.size, w7.heap.size, w3.heap.size, w2.heap.size, w1.heap.size] W11 := by intro b hb; simp at hb; omega
    have Dd_W11 := Lib.hid ((Dd_w11.out).kp kpW11)
    have Dw_W11 := Lib.hid ((Dw_w11.out).kp kpW11)
    have Y4_W11 := Lib.hid ((Y4_w11.out).kp kpW11)
    have Ds_W11 := Lib.hid ((Ds_w11.out).kp kpW11)
    have Dt_W11 := Lib.hid ((Dt_w11.out).kp kpW11)
    have Dx_W11 := Lib.hid ((Dx_w11.out).kp kpW11)
    have Dy_W11 := Lib.hid ((Dy_w11.out).kp kpW11)
    have Y11_W11 := Lib.hid ((Y11_w11.out).kp kpW11)
    clear Bx1_w11 Bx3_w11 Bx5_w11 Bx13_w11 Bx16_w11 ltx1_w11 ltx3_w11 ltx5_w11 ltx13_w11 ltx16_w11 Dd_w11 Dw_w11 Y4_w11 Ds_w11 Dt_w11 Dx_w11 Dy_w11 Y11_w11 c0 c1 c2 c3 cf0 cf1 cf2 cf3
    have C12 := Lib.hid (read_l [w9.heap.size, w7.heap.size, w3.heap.size, w2.heap.size, w1.heap.size] W11 sy _ Dy_W11.out 0)
    rw [sane12] at C12
    refine C12.out.mono ?_
    rintro e w12 ⟨v12, rfl, ⟨A12, c12, rfl, hD12⟩, hb12⟩
    have Bx1_w12 := Lib.hid ((hb12.block (w1.heap.size) (by omega)).trans Bx1_W11.out)
    have ltx1_w12 : w1.heap.size < w12.heap.size := lt_heap Bx1_w12.out
    have Bx3_w12 := Lib.hid ((hb12.block (w2.heap.size) (by omega)).trans Bx3_W11.out)
    have ltx3_w12 : w2.heap.size < w12.heap.size := lt_heap Bx3_w12.out
    have Bx5_w12 := Lib.hid ((hb12.block (w3.heap.size) (by omega)).trans Bx5_W11.out)
    have ltx5_w12 : w3.heap.size < w12.heap.size := lt_heap Bx5_w12.out
    have Bx13_w12 := Lib.hid ((hb12.block (w7.heap.size) (by omega)).trans Bx13_W11.out)
    have ltx13_w12 : w7.heap.size < w12.heap.size := lt_heap Bx13_w12.out
    have Bx16_w12 := Lib.hid ((hb12.block (w9.heap.size) (by omega)).trans Bx16_W11.out)
    have ltx16_w12 : w9.heap.size < w12.heap.size := lt_heap Bx16_w12.out
    have Dd_w12 := Lib.hid (Dd_W11.out.below hb12)
    have Dw_w12 := Lib.hid (Dw_W11.out.below hb12)
    have Y4_w12 := Lib.hid (Y4_W11.out.below hb12)
    have Ds_w12 := Lib.hid (Ds_W11.out.below hb12)
    have Dt_w12 := Lib.hid (Dt_W11.out.below hb12)
    have Dx_w12 := Lib.hid (Dx_W11.out.below hb12)
    have Dy_w12 := Lib.hid (Dy_W11.out.below hb12)
    have Y11_w12 := Lib.hid (Y11_W11.out.below hb12)
    have bww12 := Lib.hid (bwW11.trans (hb12.mono bwW11.size))
    have szw12 : W11.heap.size ≤ w12.heap.size := hb12.size
    clear Bx1_W11 Bx3_W11 Bx5_W11 Bx13_W11 Bx16_W11 ltx1_W11 ltx3_W11 ltx5_W11 ltx13_W11 ltx16_W11 Dd_W11 Dw_W11 Y4_W11 Ds_W11 Dt_W11 Dx_W11 Dy_W11 Y11_W11
    clear kpW11 bwW11 inW11 hb12
    have Y12_w12 : Hid (IsBytes w12 (NB [w9.heap.size, w7.heap.size, w3.heap.size, w2.heap.size, w1.heap.size]) (.slice A12 128 c12) _) := ⟨A12, c12, rfl, hD12⟩
    clear hD12 C12
    obtain ⟨⟨c0, c1, c2, c3⟩, ⟨cf0, cf1, cf2, cf3⟩⟩ := blk4 (Below.refl _ w12) Bx5_w12.out (Nat.lt_succ_self _)
    go_wp2_with fail
    refine nameW fun W12 hW12 => ?_
    have kpW12 : Kp [w9.heap.size, w7.heap.size, w3.heap.size, w2.heap.size, w1.heap.size] w12 W12 := by rw [hW12.out]; repeat (first | exact Kp.refl _ _ | refine Kp.alloc ?_ _ | refine Kp.setCell ?_ (by simp) _ _ | refine Kp.drew ?_ | refine Kp.drewN ?_ _)
    have bwW12 : Below w.heap.size w W12 := by rw [hW12.out]; repeat (first | exact bww12.out | refine Below.alloc ?_ (by (repeat (first | simp only [World.size_alloc] | simp only [size_set] | simp only [World.size_drew])); omega) _ | refine Below.setCell ?_ (by first | (dsimp only; omega) | omega) _ | refine Below.drew ?_ | refine below_drewN ?_ _)
    have szW12 : w12.heap.size ≤ W12.heap.size := kpW12.size
    have Bx1_W12 : Hid (W12.heap[w1.heap.size]? = some (.cells #[.slice sA1 zeroD.sectors.length sc1, .slice pA1 zeroD.pending.length pc1, .int .i64 zeroD.left, .bool zeroD.stopped] 25 (0, 0))) := by show _ = _; rw [hW12.out]; (repeat (first | simp only [heap_drew] | simp only [World.heap_drewN] | simp only [heap_alloc_if] | simp only [heap_set_if] | simp only [World.size_alloc] | simp only [size_set] | simp only [World.size_drew])); (repeat (first | rw [if_pos trivial] | rw [if_pos (by omega)] | rw [if_neg (by omega)])); exact Bx1_w12.out
    have ltx1_W12 : w1.heap.size < W12.heap.size := lt_heap Bx1_W12.out
    have Bx3_W12 : Hid (W12.heap[w2.heap.size]? = some (.cells #[.slice sA2 sd.sectors.length sc2, .slice pA2 sd.pending.length pc2, .int .i64 sd.left, .bool sd.stopped] 25 (0, 0))) := by show _ = _; rw [hW12.out]; (repeat (first | simp only [heap_drew] | simp only [World.heap_drewN] | simp only [heap_alloc_if] | simp only [heap_set_if] | simp only [World.size_alloc] | simp only [size_set] | simp only [World.size_drew])); (repeat (first | rw [if_pos trivial] | rw [if_pos (by omega)] | rw [if_neg (by omega)])); exact Bx3_w12.out
    have ltx3_W12 : w2.heap.size < W12.heap.size := lt_heap Bx3_W12.out
    have Bx5_W12 : Hid (W12.heap[w3.heap.size]? = some (.cells #[.slice sA3 sw.sectors.length sc3, .slice pA3 sw.pending.length pc3, .int .i64 sw.left, .bool sw.stopped] 25 (0, 0))) := by show _ = _; rw [hW12.out]; (repeat (first | simp only [heap_drew] | simp only [World.heap_drewN] | simp only [heap_alloc_if] | simp only [heap_set_if] | simp only [World.size_alloc] | simp only [size_set] | simp only [World.size_drew])); (repeat (first | rw [if_pos trivial] | rw [if_pos (by omega)] | rw [if_neg (by omega)])); exact Bx5_w12.out
    have ltx5_W12 : w3.heap.size < W12.heap.size := lt_heap Bx5_W12.out
    have Bx13_W12 : Hid (W12.heap[w7.heap.size]? = some (.cells #[.slice sA8 ss2.sectors.length sc8, .slice pA8 ss2.pending.length pc8, .int .i64 ss2.left, .bool ss2.stopped] 25 (0, 0))) := by show _ = _; rw [hW12.out]; (repeat (first | simp only [heap_drew] | simp only [World.heap_drewN] | simp only [heap_alloc_if] | simp only [heap_set_if] | simp only [World.size_alloc] | simp only [size_set] | simp only [World.size_drew])); (repeat (first | rw [if_pos trivial] | rw [if_pos (by omega)] | rw [if_neg (by omega)])); exact Bx13_w12.out
    have ltx13_W12 : w7.heap.size < W12.heap.size := lt_heap Bx13_W12.out
    have Bx16_W12 : Hid (W12.heap[w9.heap.size]? = some (.cells #[.slice sA10 sy.sectors.length sc10, .slice pA10 sy.pending.length pc10, .int .i64 sy.left, .bool sy.stopped] 25 (0, 0))) := by show _ = _; rw [hW12.out]; (repeat (first | simp only [heap_drew] | simp only [World.heap_drewN] | simp only [heap_alloc_if] | simp only [heap_set_if] | simp only [World.size_alloc] | simp only [size_set] | simp only [World.size_drew])); (repeat (first | rw [if_pos trivial] | rw [if_pos (by omega)] | rw [if_neg (by omega)])); exact Bx16_w12.out
    have ltx16_W12 : w9.heap.size < W12.heap.size := lt_heap Bx16_W12.out
    have inW12 : InW [w9.heap.size, w7.heap.size, w3.heap.size, w2.heap.size, w1.heap.size] W12 := by intro b hb; simp at hb; omega
    have Dd_W12 := Lib.hid ((Dd_w12.out).kp kpW12)
    have Dw_W12 := Lib.hid ((Dw_w12.out).kp kpW12)
    have Y4_W12 := Lib.hid ((Y4_w12.out).kp kpW12)
    have Ds_W12 := Lib.hid ((Ds_w12.out).kp kpW12)
    have Dt_W12 := Lib.hid ((Dt_w12.out).kp kpW12)
    have Dx_W12 := Lib.hid ((Dx_w12.out).kp kpW12)
    have Dy_W12 := Lib.hid ((Dy_w12.out).kp kpW12)
    have Y11_W12 := Lib.hid ((Y11_w12.out).kp kpW12)
    have Y12_W12 := Lib.hid ((Y12_w12.out).kp kpW12)
    clear Bx1_w12 Bx3_w12 Bx5_w12 Bx13_w12 Bx16_w12 ltx1_w12 ltx3_w12 ltx5_w12 ltx13_w12 ltx16_w12 Dd_w12 Dw_w12 Y4_w12 Ds_w12 Dt_w12 Dx_w12 Dy_w12 Y11_w12 Y12_w12 c0 c1 c2 c3 cf0 cf1 cf2 cf3
    have C13 := Lib.hid (restart_l [w9.heap.size, w7.heap.size, w3.heap.size, w2.heap.size, w1.heap.size] W12 sw _ Dw_W12.out)
    rw [sane13] at C13
    refine C13.out.mono ?_
    rintro e w13 ⟨v13, rfl, hD13, hb13⟩
    obtain ⟨sA13, sc13, pA13, pc13, rfl, -⟩ := hD13.parts
    have Bx1_w13 := Lib.hid ((hb13.block (w1.heap.size) (by omega)).trans Bx1_W12.out)
    have ltx1_w13 : w1.heap.size < w13.heap.size := lt_heap Bx1_w13.out
    have Bx3_w13 := Lib.hid ((hb13.block (w2.heap.size) (by omega)).trans Bx3_W12.out)
    have ltx3_w13 : w2.heap.size < w13.heap.size := lt_heap Bx3_w13.out
    have Bx5_w13 := Lib.hid ((hb13.block (w3.heap.size) (by omega)).trans Bx5_W12.out)
    have ltx5_w13 : w3.heap.size < w13.heap.size := lt_heap Bx5_w13.out
    have Bx13_w13 := Lib.hid ((hb13.block (w7.heap.size) (by omega)).trans Bx13_W12.out)
    have ltx13_w13 : w7.heap.size < w13.heap.size := lt_heap Bx13_w13.out
    have Bx16_w13 := Lib.hid ((hb13.block (w9.heap.size) (by omega)).trans Bx16_W12.out)
    have ltx16_w13 : w9.heap.size < w13.heap.size := lt_heap Bx16_w13.out
    have Dd_w13 := Lib.hid (Dd_W12.out.below hb13)
    have Dw_w13 := Lib.hid (Dw_W12.out.below hb13)
    have Y4_w13 := Lib.hid (Y4_W12.out.below hb13)
    have Ds_w13 := Lib.hid (Ds_W12.out.below hb13)
    have Dt_w13 := Lib.hid (Dt_W12.out.below hb13)
    have Dx_w13 := Lib.hid (Dx_W12.out.below hb13)
    have Dy_w13 := Lib.hid (Dy_W12.out.below hb13)
    have Y11_w13 := Lib.hid (Y11_W12.out.below hb13)
    have Y12_w13 := Lib.hid (Y12_W12.out.below hb13)
    have bww13 := Lib.hid (bwW12.trans (hb13.mono bwW12.size))
    have szw13 : W12.heap.size ≤ w13.heap.size := hb13.size
    clear Bx1_W12 Bx3_W12 Bx5_W12 Bx13_W12 Bx16_W12 ltx1_W12 ltx3_W12 ltx5_W12 ltx13_W12 ltx16_W12 Dd_W12 Dw_W12 Y4_W12 Ds_W12 Dt_W12 Dx_W12 Dy_W12 Y11_W12 Y12_W12
    clear kpW12 bwW12 inW12 hb13
    have Dz_w13 := Lib.hid hD13
    clear hD13 C13
    go_wp2_with fail
    refine nameW fun W13 hW13 => ?_
    have kpW13 : Kp [w9.heap.size, w7.heap.size, w3.heap.size, w2.heap.size, w1.heap.size] w13 W13 := by rw [hW13.out]; repeat (first | exact Kp.refl _ _ | refine Kp.alloc ?_ _ | refine Kp.setCell ?_ (by simp) _ _ | refine Kp.drew ?_ | refine Kp.drewN ?_ _)
    have bwW13 : Below w.heap.size w W13 := by rw [hW13.out]; repeat (first | exact bww13.out | refine Below.alloc ?_ (by (repeat (first | simp only [World.size_alloc] | simp only [size_set] | simp only [World.size_drew])); omega) _ | refine Below.setCell ?_ (by first | (dsimp only; omega) | omega) _ | refine Below.drew ?_ | refine below_drewN ?_ _)
    have szW13 : w13.heap.size ≤ W13.heap.size := kpW13.size
    have Bx1_W13 : Hid (W13.heap[w1.heap.size]? = some (.cells #[.slice sA1 zeroD.sectors.length sc1, .slice pA1 zeroD.pending.length pc1, .int .i64 zeroD.left, .bool zeroD.stopped] 25 (0, 0))) := by show _ = _; rw [hW13.out]; (repeat (first | simp only [heap_drew] | simp only [World.heap_drewN] | simp only [heap_alloc_if] | simp only [heap_set_if] | simp only [World.size_alloc] | simp only [size_set] | simp only [World.size_drew])); (repeat (first | rw [if_pos trivial] | rw [if_pos (by omega)] | rw [if_neg (by omega)])); exact Bx1_w13.out
    have ltx1_W13 : w1.heap.size < W13.heap.size := lt_heap Bx1_W13.out
    have Bx3_W13 : Hid (W13.heap[w2.heap.size]? = some (.cells #[.slice sA2 sd.sectors.length sc2, .slice pA2 sd.pending.length pc2, .int .i64 sd.left, .bool sd.stopped] 25 (0, 0))) := by show _ = _; rw [hW13.out]; (repeat (first | simp only [heap_drew] | simp only [World.heap_drewN] | simp only [heap_alloc_if] | simp only [heap_set_if] | simp only [World.size_alloc] | simp only [size_set] | simp only [World.size_drew])); (repeat (first | rw [if_pos trivial] | rw [if_pos (by omega)] | rw [if_neg (by omega)])); exact Bx3_w13.out
    have ltx3_W13 : w2.heap.size < W13.heap.size := lt_heap Bx3_W13.out
    have Bx5_W13 : Hid (W13.heap[w3.heap.size]? = some (.cells #[.slice sA3 sw.sectors.length sc3, .slice pA3 sw.pending.length pc3, .int .i64 sw.left, .bool sw.stopped] 25 (0, 0))) := by show _ = _; rw [hW13.out]; (repeat (first | simp only [heap_drew] | simp only [World.heap_drewN] | simp only [heap_alloc_if] | simp only [heap_set_if] | simp only [World.size_alloc] | simp only [size_set] | simp only [World.size_drew])); (repeat (first | rw [if_pos trivial] | rw [if_pos (by omega)] | rw [if_neg (by omega)])); exact Bx5_w13.out
    have ltx5_W13 : w3.heap.size < W13.heap.size := lt_heap Bx5_W13.out
    have Bx13_W13 : Hid (W13.heap[w7.heap.size]? = some (.cells #[.slice sA8 ss2.sectors.length sc8, .slice pA8 ss2.pending.length pc8, .int .i64 ss2.left, .bool ss2.stopped] 25 (0, 0))) := by show _ = _; rw [hW13.out]; (repeat (first | simp only [heap_drew] | simp only [World.heap_drewN] | simp only [heap_alloc_if] | simp only [heap_set_if] | simp only [World.size_alloc] | simp only [size_set] | simp only [World.size_drew])); (repeat (first | rw [if_pos trivial] | rw [if_pos (by omega)] | rw [if_neg (by omega)])); exact Bx13_w13.out
    have ltx13_W13 : w7.heap.size < W13.heap.size := lt_heap Bx13_W13.out
    have Bx16_W13 : Hid (W13.heap[w9.heap.size]? = some (.cells #[.slice sA10 sy.sectors.length sc10, .slice pA10 sy.pending.length pc10, .int .i64 sy.left, .bool sy.stopped] 25 (0, 0))) := by show _ = _; rw [hW13.out]; (repeat (first | simp only [heap_drew] | simp only [World.heap_drewN] | simp only [heap_alloc_if] | simp only [heap_set_if] | simp only [World.size_alloc] | simp only [size_set] | simp only [World.size_drew])); (repeat (first | rw [if_pos trivial] | rw [if_pos (by omega)] | rw [if_neg (by omega)])); exact Bx16_w13.out
    have ltx16_W13 : w9.heap.size < W13.heap.size := lt_heap Bx16_W13.out
    have inW13 : InW [w9.heap.size, w7.heap.size, w3.heap.size, w2.heap.size, w1.heap.size] W13 := by intro b hb; simp at hb; omega
    have Dd_W13 := Lib.hid ((Dd_w13.out).kp kpW13)
    have Dw_W13 := Lib.hid ((Dw_w13.out).kp kpW13)
    have Y4_W13 := Lib.hid ((Y4_w13.out).kp kpW13)
    have Ds_W13 := Lib.hid ((Ds_w13.out).kp kpW13)
    have Dt_W13 := Lib.hid ((Dt_w13.out).kp kpW13)
    have Dx_W13 := Lib.hid ((Dx_w13.out).kp kpW13)
    have Dy_W13 := Lib.hid ((Dy_w13.out).kp kpW13)
    have Y11_W13 := Lib.hid ((Y11_w13.out).kp kpW13)
    have Y12_W13 := Lib.hid ((Y12_w13.out).kp kpW13)
    have Dz_W13 := Lib.hid ((Dz_w13.out).kp kpW13)
    clear Bx1_w13 Bx3_w13 Bx5_w13 Bx13_w13 Bx16_w13 ltx1_w13 ltx3_w13 ltx5_w13 ltx13_w13 ltx16_w13 Dd_w13 Dw_w13 Y4_w13 Ds_w13 Dt_w13 Dx_w13 Dy_w13 Y11_w13 Y12_w13 Dz_w13
    have C14 := Lib.hid (read_l [w9.heap.size, w7.heap.size, w3.heap.size, w2.heap.size, w1.heap.size] W13 sz _ Dz_W13.out 1)
    rw [sane14] at C14
    refine C14.out.mono ?_
    rintro e w14 ⟨v14, rfl, ⟨A14, c14, rfl, hD14⟩, hb14⟩
    have Bx1_w14 := Lib.hid ((hb14.block (w1.heap.size) (by omega)).trans Bx1_W13.out)
    have ltx1_w14 : w1.heap.size < w14.heap.size := lt_heap Bx1_w14.out
    have Bx3_w14 := Lib.hid ((hb14.block (w2.heap.size) (by omega)).trans Bx3_W13.out)
    have ltx3_w14 : w2.heap.size < w14.heap.size := lt_heap Bx3_w14.out
    have Bx5_w14 := Lib.hid ((hb14.block (w3.heap.size) (by omega)).trans Bx5_W13.out)
    have ltx5_w14 : w3.heap.size < w14.heap.size := lt_heap Bx5_w14.out
    have Bx13_w14 := Lib.hid ((hb14.block (w7.heap.size) (by omega)).trans Bx13_W13.out)
    have ltx13_w14 : w7.heap.size < w14.heap.size := lt_heap Bx13_w14.out
    have Bx16_w14 := Lib.hid ((hb14.block (w9.heap.size) (by omega)).trans Bx16_W13.out)
    have ltx16_w14 : w9.heap.size < w14.heap.size := lt_heap Bx16_w14.out
    have Dd_w14 := Lib.hid (Dd_W13.out.below hb14)
    have Dw_w14 := Lib.hid (Dw_W13.out.below hb14)
    have Y4_w14 := Lib.hid (Y4_W13.out.below hb14)
    have Ds_w14 := Lib.hid (Ds_W13.out.below hb14)
    have Dt_w14 := Lib.hid (Dt_W13.out.below hb14)
    have Dx_w14 := Lib.hid (Dx_W13.out.below hb14)
    have Dy_w14 := Lib.hid (Dy_W13.out.below hb14)
    have Y11_w14 := Lib.hid (Y11_W13.out.below hb14)
    have Y12_w14 := Lib.hid (Y12_W13.out.below hb14)
    have Dz_w14 := Lib.hid (Dz_W13.out.below hb14)
    have bww14 := Lib.hid (bwW13.trans (hb14.mono bwW13.size))
    have szw14 : W13.heap.size ≤ w14.heap.size := hb14.size
    clear Bx1_W13 Bx3_W13 Bx5_W13 Bx13_W13 Bx16_W13 ltx1_W13 ltx3_W13 ltx5_W13 ltx13_W13 ltx16_W13 Dd_W13 Dw_W13 Y4_W13 Ds_W13 Dt_W13 Dx_W13 Dy_W13 Y11_W13 Y12_W13 Dz_W13
    clear kpW13 bwW13 inW13 hb14
    have Y14_w14 : Hid (IsBytes w14 (NB [w9.heap.size, w7.heap.size, w3.heap.size, w2.heap.size, w1.heap.size]) (.slice A14 128 c14) _) := ⟨A14, c14, rfl, hD14⟩
    clear hD14 C14
    obtain ⟨g4, o4, rfl, hc4⟩ := first_byte Y4_w14.out (x := 7) (by decide) rfl
    obtain ⟨g11, o11, rfl, hc11⟩ := first_byte Y11_w14.out (x := 7) (by decide) rfl
    obtain ⟨g12, o12, rfl, hc12⟩ := first_byte Y12_w14.out (x := 0) (by decide) rfl
    obtain ⟨g14, o14, rfl, hc14⟩ := first_byte Y14_w14.out (x := 0) (by decide) rfl
    go_wp2_with fail
    refine (check_any w14 (NB []) zeroD _ IsDisk.zero).mono ?_
    rintro e w15 ⟨rfl, hb15⟩
    rw [show chk zeroD = 340 from rfl]
    have HX15 := Lib.hid (bww14.out.trans (hb15.mono bww14.out.size))
    clear hb15
    go_wp2_with fail
    refine (restart_any w15 (NB []) zeroD _ IsDisk.zero).mono ?_
    rintro e w16 ⟨v16, rfl, hD16, hb16⟩
    obtain ⟨sA16, sc16, pA16, pc16, rfl, -⟩ := hD16.parts
    have hl16 : (restartD zeroD).left = -1 := rfl
    rw [hl16]
    have HX16 := Lib.hid (HX15.out.trans (hb16.mono HX15.out.size))
    clear hb16 hD16 hl16
    have hfd := field2
    go_wp2_with fail
    go_ret
    exact ⟨rfl, HX16.out⟩
end Go.Proofs.Ytjmafnkknohinaa
