/- The chapter's examples, run. -/
import Derived.Test.YtocjhepiooljpaaZy
import Derived.Test.YtocjhepiooljpaaA21
import Derived.Test.YtocjhepiooljpaaF1
import Derived.Lib.SlBytesConst
namespace Go.Proofs.Ytocjhepiooljpaa
open Go.RowKit Go.Deep Go.Shelf

theorem IsLog.form {w : World} {M : Nat → Prop} {v : Value} {l : LogD} {n : Nat} {s : Int} (h : IsLog w M v l) (hn : l.recs.length = n) (hs : l.synced = s) : ∃ A c, v = .agg #[.int .i64 l.many, .slice A n c, .int .i64 s] ∧ IsLog w M (.agg #[.int .i64 l.many, .slice A n c, .int .i64 s]) l := by
  obtain ⟨rv, rfl, A, c, rfl, h1, h2, h3⟩ := h
  subst hn hs
  exact ⟨A, c, rfl, _, rfl, A, c, rfl, h1, h2, h3⟩
theorem IsLog.row {w : World} {M : Nat → Prop} {a s : Value} {A : Option Addr} {n c : Nat} {l : LogD} (h : IsLog w M (.agg #[a, .slice A n c, s]) l) : MatC w M A l.recs := by
  obtain ⟨rv, e, A', c', rfl, h1, h2, h3⟩ := h
  simp only [Value.agg.injEq, Array.mk.injEq, List.cons.injEq, Value.slice.injEq, and_true] at e
  rw [e.2.1.1]; exact h3
theorem bytesZ {w : World} {g : Nat} {cs : Array Value} {n : Nat} (h : w.heap[g]? = some (.cells cs 5 (0, 0))) (hc : cs = madeCells #[.int .u8 0] n) (hn : n ≤ 9223372036854775807 := by omega) : IsBytes w (fun _ => True) (.slice (some ⟨g, 0, none⟩) n n) (List.replicate n 0) := by
  subst hc
  have hr : w.rowIs g 5 (List.replicate n (0 : UInt8)).length (bv (List.replicate n 0)) := by
    obtain ⟨cs, h1, h2⟩ := rowB_made w n
    rw [heap_alloc_new] at h1
    cases h1
    rw [List.length_replicate]
    exact ⟨_, h, h2⟩
  have hb := rowB_bytes (M := fun _ => True) (off := 0) (n := n) hr trivial (by rw [List.length_replicate]; omega)
  rw [List.drop_zero, List.take_of_length_le (by rw [List.length_replicate]; exact Nat.le_refl _)] at hb
  exact ⟨some ⟨g, 0, none⟩, n, by rw [List.length_replicate], by rw [List.length_replicate]; exact Nat.le_refl _, hn, hb⟩
theorem bytesAB {w : World} {g : Nat} {z : Nat × Nat} (h : w.heap[g]? = some (.cells #[.int .u8 97, .int .u8 98] 5 z)) : IsBytes w (fun _ => True) (.slice (some ⟨g, 0, none⟩) 2 2) [97, 98] := by
  refine ⟨some ⟨g, 0, none⟩, 2, rfl, by decide, by decide, fun _ => ⟨g, 0, rfl, trivial, fun i j hi hj => ?_⟩⟩
  obtain rfl : j = 0 := by omega
  have hi2 : i = 0 ∨ i = 1 := by simp at hi; omega
  rcases hi2 with rfl | rfl
  · exact cell_of h rfl
  · exact cell_of h rfl
theorem heap_drew (w : World) : w.drew.heap = w.heap := rfl
theorem size_drew (w : World) : w.drew.heap.size = w.heap.size := rfl
theorem boxK {W w4 : World} {g : Nat} {q : Prop} (hb : Below W.heap.size W w4) (hX : W.heap[g]? = some (.cells #[.int .i64 0, .slice none 0 0, .int .i64 0] 29 (0, 0)))
    (k : w4.cell? ⟨g, 0, none⟩ = some (.int .i64 0) → w4.cell? ⟨g, 1, none⟩ = some (.slice none 0 0) → w4.cell? ⟨g, 2, none⟩ = some (.int .i64 0) → w4.frozen? ⟨g, 0, none⟩ = false → w4.frozen? ⟨g, 1, none⟩ = false → w4.frozen? ⟨g, 2, none⟩ = false → q) : q := by
  obtain ⟨⟨g0, g1, g2⟩, y0, y1, y2⟩ := blk3 hb hX (lt_heap hX)
  exact k g0 g1 g2 y0 y1 y2
theorem cell_al {w : World} {o : Obj} {p : Addr} {x : Value} (hp : p.block < w.heap.size) (h : w.cell? p = some x) : (w.alloc o).cell? p = some x := (((Below.refl w.heap.size w).alloc (Nat.le_refl _) o).cell hp).trans h

set_option maxRecDepth 20000 in
set_option maxHeartbeats 4000000 in
theorem sane_any (w : World) : Calls Try.prog 10 #[] w fun e w' => e = .returned (.bool true) ∧ Below w.heap.size w w' := by
  obtain ⟨D, E, ZD, L0, L1, L2, Z, hEx⟩ := exs
  have HEx := Lib.hid hEx
  have hf0 : FitR L0.recs := by rw [hEx.rec0]; exact fit_nil
  have hf1 : FitR L1.recs := by rw [hEx.rec1]; exact fit_ab
  have HF0 := Lib.hid hf0
  have HF1 := Lib.hid hf1
  have HB : Hid (Below w.heap.size w w) := Lib.hid (Below.refl _ _)
  have C1 := Lib.hid (new_any w 1)
  rw [hEx.new] at C1
  clear hEx hf0 hf1
  go_enter Try.func10, Try.ntmps10
  go_wp2_with fail
  refine C1.out.mono ?_
  rintro e w1 ⟨v1, rfl, hd1, hb⟩
  obtain ⟨sA1, sc1, pA1, pc1, rfl, -⟩ := hd1.parts
  have HV1 := Lib.hid (hd1.mono (M' := (fun _ => True)) fun _ _ _ => trivial)
  clear hd1 C1
  replace HB := Lib.hid hb
  clear hb
  go_wp2_with fail
  refine nameW fun W2 hW => ?_
  have hB9 : Below w1.heap.size w1 W2 := by rw [hW.out]; exact (Below.refl _ _).alloc (by simp) _
  have HX1 := Lib.hid (show W2.heap[w1.heap.size]? = some (.cells #[.slice sA1 D.sectors.length sc1, .slice pA1 D.pending.length pc1, .int .i64 D.left, .bool D.stopped] 25 (0, 0)) by rw [hW.out]; (repeat (first | simp only [heap_alloc_if] | simp only [World.size_alloc])); repeat (first | rw [if_pos trivial] | rw [if_pos (by omega)] | rw [if_neg (by omega)]))
  replace HB := Lib.hid (HB.out.trans (hB9.mono HB.out.size))
  replace HV1 := Lib.hid (HV1.out.below hB9)
  clear hW hB9
  have CO := Lib.hid (open_any W2 _ _ _ HV1.out)
  rw [HEx.out.op] at CO
  refine CO.out.mono ?_
  rintro e w2 ⟨v, rfl, hl, hb⟩
  obtain ⟨rA3, rc3, rfl, hv⟩ := hl.form (congrArg List.length HEx.out.rec0) rfl
  have HV3 := Lib.hid (hv.mono (M' := (fun _ => True)) fun _ _ _ => trivial)
  clear hl hv
  replace HX1 := Lib.hid ((hb.block _ (lt_heap HX1.out)).trans HX1.out)
  replace HV1 := Lib.hid (HV1.out.below hb)
  replace HB := Lib.hid (HB.out.trans (hb.mono HB.out.size))
  clear hb CO
  have hq1 := lt_heap HX1.out
  obtain ⟨c1_0, c1_1, c1_2, c1_3⟩ := (blk4 (Below.refl _ _) HX1.out (lt_heap HX1.out)).1
  go_upto_region 3 with fail
  clear c1_0 c1_1 c1_2 c1_3 hq1
  refine nameG fun W3 hW => ?_
  have hB9 : Below w2.heap.size w2 W3 := by rw [hW.out]; exact (Below.refl _ _).alloc (by simp) _
  have HX3 := Lib.hid (show W3.heap[w2.heap.size]? = some (.cells #[.int .i64 L0.many, .slice rA3 0 rc3, .int .i64 L0.synced] 29 (0, 0)) by rw [hW.out]; (repeat (first | simp only [heap_alloc_if] | simp only [World.size_alloc])); repeat (first | rw [if_pos trivial] | rw [if_pos (by omega)] | rw [if_neg (by omega)]))
  replace HX1 := Lib.hid ((hB9.block _ (lt_heap HX1.out)).trans HX1.out)
  replace HV1 := Lib.hid (HV1.out.below hB9)
  replace HB := Lib.hid (HB.out.trans (hB9.mono HB.out.size))
  replace HV3 := Lib.hid (HV3.out.below hB9)
  clear hW hB9
  have hq1 := lt_heap HX1.out
  obtain ⟨c1_0, c1_1, c1_2, c1_3⟩ := (blk4 (Below.refl _ _) HX1.out (lt_heap HX1.out)).1
  have hq3 := lt_heap HX3.out
  obtain ⟨c3_0, c3_1, c3_2⟩ := (blk3 (Below.refl _ _) HX3.out (lt_heap HX3.out)).1
  obtain ⟨cs, hcs, hmk⟩ : ∃ cs, cs = madeCells #[.int .u8 0] 117 ∧ ∀ w : World, (Instr.makeSlice 35 (.int .i64 117) (.int .i64 117)).run Try.prog w = .ok (.slice (some ⟨w.heap.size, 0, none⟩) 117 117) (w.alloc (.cells cs 5)) := ⟨_, rfl, fun w => make_u8 117 (by omega) w⟩
  have HCS := Lib.hid hcs
  clear hcs
  have hlt3 := lt_heap HX3.out
  have CA := fun (W : World) (g : Nat) (hB : Below W3.heap.size W3 W) (hX : W.heap[g]? = some (.cells cs 5 (0, 0))) => Lib.hid (append_any W (fun _ => True) L0 _ (.slice (some ⟨g, 0, none⟩) 117 117) (List.replicate 117 0) HF0.out (by simp) (HV3.out.below hB) (bytesZ hX HCS.out))
  rw [HEx.out.bad] at CA
  go_cut [5, 6] (fun s5 s6 W => s6 = .int .i64 2 ∧ Hid (Below W3.heap.size W3 W))
  case first =>
    go_region_held3 (fun w' => w'.cell? ⟨w2.heap.size, 0, none⟩ = some (.int .i64 L0.many) ∧ w'.cell? ⟨w2.heap.size, 1, none⟩ = some (.slice rA3 0 rc3) ∧ w'.cell? ⟨w2.heap.size, 2, none⟩ = some (.int .i64 L0.synced)) (first | with_reducible exact ⟨c3_0, c3_1, c3_2⟩ | with_reducible exact ⟨s0, s1, s2⟩ | (refine ⟨?_, ?_, ?_⟩ <;> (repeat (first | with_reducible assumption | with_reducible refine cell_dr ?_ | with_reducible refine cell_al (by simp <;> omega) ?_ | with_reducible refine cell_off (by simp <;> omega) ?_)))) (first | (go_at_call 15; refine nameW fun W4 hW => ?_; have hB4 : Below W3.heap.size W3 W4 := (by rw [hW.out]; repeat (first | with_reducible exact Below.refl _ _ | with_reducible refine Below.drew ?_ | refine Below.alloc ?_ (by simp) _)); refine (CA W4 _ hB4 (by rw [hW.out]; (show (World.heap _)[_]? = _; (repeat (first | simp only [heap_drew] | simp only [heap_alloc_if] | simp only [World.size_alloc])); repeat (first | rw [if_pos trivial] | rw [if_pos (by omega)] | rw [if_neg (by omega)])); done)).out.mono ?_; rintro e w4 ⟨v, rfl, hl, hb⟩; have HB4 := Lib.hid (hB4.trans (hb.mono hB4.size)); have hsz4 := HB4.out.size; obtain ⟨⟨s0, s1, s2⟩, -⟩ := blk3 HB4.out HX3.out hlt3; (try (refine boxK (g := W3.heap.size + 1) hb ?_ (fun g0 g1 g2 y0 y1 y2 => ?_); (focus (rw [hW.out]; (repeat (first | simp only [heap_drew] | simp only [heap_alloc_if] | simp only [World.size_alloc] | simp only [size_drew])); (repeat (first | rw [if_pos trivial] | rw [if_pos (by omega)] | rw [if_neg (by omega)])); done)))); (try (refine boxK (g := W3.heap.size) hb ?_ (fun g0 g1 g2 y0 y1 y2 => ?_); (focus (rw [hW.out]; (repeat (first | simp only [heap_drew] | simp only [heap_alloc_if] | simp only [World.size_alloc] | simp only [size_drew])); (repeat (first | rw [if_pos trivial] | rw [if_pos (by omega)] | rw [if_neg (by omega)])); done)))); obtain ⟨rA5, rc5, rfl, hv⟩ := hl.form rfl rfl; clear hl hv hB4 hb hW) | fail)
    all_goals go_wp2_with fail
    all_goals go_meet
    all_goals
      case rel => exact ⟨rfl, Lib.hid (by repeat (first | with_reducible exact HB4.out | with_reducible refine Below.drew ?_ | refine Below.alloc ?_ (by omega) _ | refine Below.setCell ?_ (by simp <;> omega) _))⟩
  case rest =>
    obtain ⟨hc, HBc⟩ := hcut
    subst hc
    clear c1_0 c1_1 c1_2 c1_3 c3_0 c3_1 c3_2 hq1 hq3
    clear CA hmk hlt3
    replace HX1 := Lib.hid ((HBc.out.block _ (lt_heap HX1.out)).trans HX1.out)
    replace HV1 := Lib.hid (HV1.out.below HBc.out)
    replace HX3 := Lib.hid ((HBc.out.block _ (lt_heap HX3.out)).trans HX3.out)
    replace HV3 := Lib.hid (HV3.out.below HBc.out)
    replace HB := Lib.hid (HB.out.trans (HBc.out.mono HB.out.size))
    clear HBc
    have hq1 := lt_heap HX1.out
    obtain ⟨c1_0, c1_1, c1_2, c1_3⟩ := (blk4 (Below.refl _ _) HX1.out (lt_heap HX1.out)).1
    have hq3 := lt_heap HX3.out
    obtain ⟨c3_0, c3_1, c3_2⟩ := (blk3 (Below.refl _ _) HX3.out (lt_heap HX3.out)).1
    have hcc := Go.Lib.run_convert_bytes_const (P := Try.prog) wc 35 5 #[.int .u8 97, .int .u8 98] 2 2 Try.underlying35 Try.underlying5
    go_wp2_with fail
    clear hcc
    clear c1_0 c1_1 c1_2 c1_3 c3_0 c3_1 c3_2 hq1 hq3
    refine nameW fun W6 hW => ?_
    have hB9 : Below wc.heap.size wc W6 := by rw [hW.out]; repeat (first | with_reducible exact Below.refl _ _ | with_reducible refine Below.drew ?_ | refine Below.alloc ?_ (by simp) _)
    replace HX1 := Lib.hid ((hB9.block _ (lt_heap HX1.out)).trans HX1.out)
    replace HV1 := Lib.hid (HV1.out.below hB9)
    replace HX3 := Lib.hid ((hB9.block _ (lt_heap HX3.out)).trans HX3.out)
    replace HV3 := Lib.hid (HV3.out.below hB9)
    replace HB := Lib.hid (HB.out.trans (hB9.mono HB.out.size))
    have hab : IsBytes W6 (fun _ => True) (.slice (some ⟨wc.heap.size, 0, none⟩) 2 2) [97, 98] := bytesAB (by rw [hW.out]; exact heap_alloc_new _ _)
    clear hW hB9
    have CO := Lib.hid (append_any W6 (fun _ => True) L0 _ _ [97, 98] HF0.out (by simp) HV3.out hab)
    rw [HEx.out.app] at CO
    clear hab
    refine CO.out.mono ?_
    rintro e w6 ⟨v, rfl, hl, hb⟩
    obtain ⟨rA7, rc7, rfl, hv⟩ := hl.form (congrArg List.length HEx.out.rec1) rfl
    have HV7 := Lib.hid (hv.mono (M' := (fun _ => True)) fun _ _ _ => trivial)
    clear hl hv
    replace HX1 := Lib.hid ((hb.block _ (lt_heap HX1.out)).trans HX1.out)
    replace HV1 := Lib.hid (HV1.out.below hb)
    replace HX3 := Lib.hid ((hb.block _ (lt_heap HX3.out)).trans HX3.out)
    replace HV3 := Lib.hid (HV3.out.below hb)
    replace HB := Lib.hid (HB.out.trans (hb.mono HB.out.size))
    clear hb CO
    have hq1 := lt_heap HX1.out
    obtain ⟨c1_0, c1_1, c1_2, c1_3⟩ := (blk4 (Below.refl _ _) HX1.out (lt_heap HX1.out)).1
    have hq3 := lt_heap HX3.out
    obtain ⟨c3_0, c3_1, c3_2⟩ := (blk3 (Below.refl _ _) HX3.out (lt_heap HX3.out)).1
    go_wp2_with fail
    clear c1_0 c1_1 c1_2 c1_3 c3_0 c3_1 c3_2 hq1 hq3
    refine nameW fun W7 hW => ?_
    have hB9 : Below w6.heap.size w6 W7 := by rw [hW.out]; exact (Below.refl _ _).alloc (by simp) _
    have HX7 := Lib.hid (show W7.heap[w6.heap.size]? = some (.cells #[.int .i64 L1.many, .slice rA7 1 rc7, .int .i64 L1.synced] 29 (0, 0)) by rw [hW.out]; (repeat (first | simp only [heap_alloc_if] | simp only [World.size_alloc])); repeat (first | rw [if_pos trivial] | rw [if_pos (by omega)] | rw [if_neg (by omega)]))
    replace HX1 := Lib.hid ((hB9.block _ (lt_heap HX1.out)).trans HX1.out)
    replace HV1 := Lib.hid (HV1.out.below hB9)
    replace HX3 := Lib.hid ((hB9.block _ (lt_heap HX3.out)).trans HX3.out)
    replace HV3 := Lib.hid (HV3.out.below hB9)
    replace HB := Lib.hid (HB.out.trans (hB9.mono HB.out.size))
    replace HV7 := Lib.hid (HV7.out.below hB9)
    clear hW hB9
    have CO := Lib.hid (syncW_any W7 (fun _ => True) L1 _ HV7.out HF1.out D _ HV1.out)
    rw [HEx.out.sync] at CO
    refine CO.out.mono ?_
    rintro e w8 ⟨lv, dv, rfl, hl, hd, hb⟩
    obtain ⟨rA9, rc9, rfl, hv⟩ := hl.form (congrArg List.length HEx.out.rec2) HEx.out.syn2
    have HV9 := Lib.hid (hv.mono (M' := (fun _ => True)) fun _ _ _ => trivial)
    clear hl hv
    obtain ⟨sA10, sc10, pA10, pc10, rfl, -⟩ := hd.parts
    have HV10 := Lib.hid (hd.mono (M' := (fun _ => True)) fun _ _ _ => trivial)
    clear hd
    replace HX1 := Lib.hid ((hb.block _ (lt_heap HX1.out)).trans HX1.out)
    replace HV1 := Lib.hid (HV1.out.below hb)
    replace HX3 := Lib.hid ((hb.block _ (lt_heap HX3.out)).trans HX3.out)
    replace HV3 := Lib.hid (HV3.out.below hb)
    replace HX7 := Lib.hid ((hb.block _ (lt_heap HX7.out)).trans HX7.out)
    replace HV7 := Lib.hid (HV7.out.below hb)
    replace HB := Lib.hid (HB.out.trans (hb.mono HB.out.size))
    clear hb CO
    have hq1 := lt_heap HX1.out
    obtain ⟨c1_0, c1_1, c1_2, c1_3⟩ := (blk4 (Below.refl _ _) HX1.out (lt_heap HX1.out)).1
    have hq3 := lt_heap HX3.out
    obtain ⟨c3_0, c3_1, c3_2⟩ := (blk3 (Below.refl _ _) HX3.out (lt_heap HX3.out)).1
    have hq7 := lt_heap HX7.out
    obtain ⟨c7_0, c7_1, c7_2⟩ := (blk3 (Below.refl _ _) HX7.out (lt_heap HX7.out)).1
    go_wp2_with fail
    clear c1_0 c1_1 c1_2 c1_3 c3_0 c3_1 c3_2 c7_0 c7_1 c7_2 hq1 hq3 hq7
    refine nameW fun W9 hW => ?_
    have hB9 : Below w8.heap.size w8 W9 := by rw [hW.out]; exact ((Below.refl _ _).alloc (by simp) _).alloc (by simp) _
    have HX9 := Lib.hid (show W9.heap[w8.heap.size]? = some (.cells #[.int .i64 L2.many, .slice rA9 1 rc9, .int .i64 1] 29 (0, 0)) by rw [hW.out]; (repeat (first | simp only [heap_alloc_if] | simp only [World.size_alloc])); repeat (first | rw [if_pos trivial] | rw [if_pos (by omega)] | rw [if_neg (by omega)]))
    have HX10 := Lib.hid (show W9.heap[w8.heap.size + 1]? = some (.cells #[.slice sA10 E.sectors.length sc10, .slice pA10 E.pending.length pc10, .int .i64 E.left, .bool E.stopped] 25 (0, 0)) by rw [hW.out]; (repeat (first | simp only [heap_alloc_if] | simp only [World.size_alloc])); repeat (first | rw [if_pos trivial] | rw [if_pos (by omega)] | rw [if_neg (by omega)]))
    replace HX1 := Lib.hid ((hB9.block _ (lt_heap HX1.out)).trans HX1.out)
    replace HV1 := Lib.hid (HV1.out.below hB9)
    replace HX3 := Lib.hid ((hB9.block _ (lt_heap HX3.out)).trans HX3.out)
    replace HV3 := Lib.hid (HV3.out.below hB9)
    replace HX7 := Lib.hid ((hB9.block _ (lt_heap HX7.out)).trans HX7.out)
    replace HV7 := Lib.hid (HV7.out.below hB9)
    replace HB := Lib.hid (HB.out.trans (hB9.mono HB.out.size))
    replace HV9 := Lib.hid (HV9.out.below hB9)
    replace HV10 := Lib.hid (HV10.out.below hB9)
    clear hW hB9
    have CO := Lib.hid (open_any W9 _ _ _ HV10.out)
    rw [HEx.out.op2] at CO
    refine CO.out.mono ?_
    rintro e w10 ⟨v, rfl, hl, hb⟩
    obtain ⟨rA12, rc12, rfl, hv⟩ := hl.form (congrArg List.length HEx.out.rec2) HEx.out.syn2
    have HV12 := Lib.hid (hv.mono (M' := (fun _ => True)) fun _ _ _ => trivial)
    clear hl hv
    replace HX1 := Lib.hid ((hb.block _ (lt_heap HX1.out)).trans HX1.out)
    replace HV1 := Lib.hid (HV1.out.below hb)
    replace HX3 := Lib.hid ((hb.block _ (lt_heap HX3.out)).trans HX3.out)
    replace HV3 := Lib.hid (HV3.out.below hb)
    replace HX7 := Lib.hid ((hb.block _ (lt_heap HX7.out)).trans HX7.out)
    replace HV7 := Lib.hid (HV7.out.below hb)
    replace HX9 := Lib.hid ((hb.block _ (lt_heap HX9.out)).trans HX9.out)
    replace HV9 := Lib.hid (HV9.out.below hb)
    replace HX10 := Lib.hid ((hb.block _ (lt_heap HX10.out)).trans HX10.out)
    replace HV10 := Lib.hid (HV10.out.below hb)
    replace HB := Lib.hid (HB.out.trans (hb.mono HB.out.size))
    clear hb CO
    have hq1 := lt_heap HX1.out
    obtain ⟨c1_0, c1_1, c1_2, c1_3⟩ := (blk4 (Below.refl _ _) HX1.out (lt_heap HX1.out)).1
    have hq3 := lt_heap HX3.out
    obtain ⟨c3_0, c3_1, c3_2⟩ := (blk3 (Below.refl _ _) HX3.out (lt_heap HX3.out)).1
    have hq7 := lt_heap HX7.out
    obtain ⟨c7_0, c7_1, c7_2⟩ := (blk3 (Below.refl _ _) HX7.out (lt_heap HX7.out)).1
    have hq9 := lt_heap HX9.out
    obtain ⟨c9_0, c9_1, c9_2⟩ := (blk3 (Below.refl _ _) HX9.out (lt_heap HX9.out)).1
    have hq10 := lt_heap HX10.out
    obtain ⟨c10_0, c10_1, c10_2, c10_3⟩ := (blk4 (Below.refl _ _) HX10.out (lt_heap HX10.out)).1
    go_wp2_with fail
    clear c1_0 c1_1 c1_2 c1_3 c3_0 c3_1 c3_2 c7_0 c7_1 c7_2 c9_0 c9_1 c9_2 c10_0 c10_1 c10_2 c10_3 hq1 hq3 hq7 hq9 hq10
    refine nameW fun W11 hW => ?_
    have hB9 : Below w10.heap.size w10 W11 := by rw [hW.out]; exact (Below.refl _ _).alloc (by simp) _
    have HX12 := Lib.hid (show W11.heap[w10.heap.size]? = some (.cells #[.int .i64 L2.many, .slice rA12 1 rc12, .int .i64 1] 29 (0, 0)) by rw [hW.out]; (repeat (first | simp only [heap_alloc_if] | simp only [World.size_alloc])); repeat (first | rw [if_pos trivial] | rw [if_pos (by omega)] | rw [if_neg (by omega)]))
    replace HX1 := Lib.hid ((hB9.block _ (lt_heap HX1.out)).trans HX1.out)
    replace HV1 := Lib.hid (HV1.out.below hB9)
    replace HX3 := Lib.hid ((hB9.block _ (lt_heap HX3.out)).trans HX3.out)
    replace HV3 := Lib.hid (HV3.out.below hB9)
    replace HX7 := Lib.hid ((hB9.block _ (lt_heap HX7.out)).trans HX7.out)
    replace HV7 := Lib.hid (HV7.out.below hB9)
    replace HX9 := Lib.hid ((hB9.block _ (lt_heap HX9.out)).trans HX9.out)
    replace HV9 := Lib.hid (HV9.out.below hB9)
    replace HX10 := Lib.hid ((hB9.block _ (lt_heap HX10.out)).trans HX10.out)
    replace HV10 := Lib.hid (HV10.out.below hB9)
    replace HB := Lib.hid (HB.out.trans (hB9.mono HB.out.size))
    replace HV12 := Lib.hid (HV12.out.below hB9)
    clear hW hB9
    have CO := Lib.hid (syncW_any W11 (fun _ => True) L1 _ HV7.out HF1.out E _ HV10.out)
    rw [HEx.out.again] at CO
    refine CO.out.mono ?_
    rintro e w12 ⟨lv, dv, rfl, hl, hd, hb⟩
    obtain ⟨rA14, rc14, rfl, hv⟩ := hl.form rfl rfl
    have HV14 := Lib.hid (hv.mono (M' := (fun _ => True)) fun _ _ _ => trivial)
    clear hl hv
    obtain ⟨sA15, sc15, pA15, pc15, rfl, -⟩ := hd.parts
    have HV15 := Lib.hid (hd.mono (M' := (fun _ => True)) fun _ _ _ => trivial)
    clear hd
    replace HX1 := Lib.hid ((hb.block _ (lt_heap HX1.out)).trans HX1.out)
    replace HV1 := Lib.hid (HV1.out.below hb)
    replace HX3 := Lib.hid ((hb.block _ (lt_heap HX3.out)).trans HX3.out)
    replace HV3 := Lib.hid (HV3.out.below hb)
    replace HX7 := Lib.hid ((hb.block _ (lt_heap HX7.out)).trans HX7.out)
    replace HV7 := Lib.hid (HV7.out.below hb)
    replace HX9 := Lib.hid ((hb.block _ (lt_heap HX9.out)).trans HX9.out)
    replace HV9 := Lib.hid (HV9.out.below hb)
    replace HX10 := Lib.hid ((hb.block _ (lt_heap HX10.out)).trans HX10.out)
    replace HV10 := Lib.hid (HV10.out.below hb)
    replace HX12 := Lib.hid ((hb.block _ (lt_heap HX12.out)).trans HX12.out)
    replace HV12 := Lib.hid (HV12.out.below hb)
    replace HB := Lib.hid (HB.out.trans (hb.mono HB.out.size))
    clear hb CO
    have hq1 := lt_heap HX1.out
    obtain ⟨c1_0, c1_1, c1_2, c1_3⟩ := (blk4 (Below.refl _ _) HX1.out (lt_heap HX1.out)).1
    have hq3 := lt_heap HX3.out
    obtain ⟨c3_0, c3_1, c3_2⟩ := (blk3 (Below.refl _ _) HX3.out (lt_heap HX3.out)).1
    have hq7 := lt_heap HX7.out
    obtain ⟨c7_0, c7_1, c7_2⟩ := (blk3 (Below.refl _ _) HX7.out (lt_heap HX7.out)).1
    have hq9 := lt_heap HX9.out
    obtain ⟨c9_0, c9_1, c9_2⟩ := (blk3 (Below.refl _ _) HX9.out (lt_heap HX9.out)).1
    have hq10 := lt_heap HX10.out
    obtain ⟨c10_0, c10_1, c10_2, c10_3⟩ := (blk4 (Below.refl _ _) HX10.out (lt_heap HX10.out)).1
    have hq12 := lt_heap HX12.out
    obtain ⟨c12_0, c12_1, c12_2⟩ := (blk3 (Below.refl _ _) HX12.out (lt_heap HX12.out)).1
    go_wp2_with fail
    clear c1_0 c1_1 c1_2 c1_3 c3_0 c3_1 c3_2 c7_0 c7_1 c7_2 c9_0 c9_1 c9_2 c10_0 c10_1 c10_2 c10_3 c12_0 c12_1 c12_2 hq1 hq3 hq7 hq9 hq10 hq12
    refine nameW fun W13 hW => ?_
    have hB9 : Below w12.heap.size w12 W13 := by rw [hW.out]; exact ((Below.refl _ _).alloc (by simp) _).alloc (by simp) _
    have HX14 := Lib.hid (show W13.heap[w12.heap.size]? = some (.cells #[.int .i64 Z.many, .slice rA14 Z.recs.length rc14, .int .i64 Z.synced] 29 (0, 0)) by rw [hW.out]; (repeat (first | simp only [heap_alloc_if] | simp only [World.size_alloc])); repeat (first | rw [if_pos trivial] | rw [if_pos (by omega)] | rw [if_neg (by omega)]))
    have HX15 := Lib.hid (show W13.heap[w12.heap.size + 1]? = some (.cells #[.slice sA15 ZD.sectors.length sc15, .slice pA15 ZD.pending.length pc15, .int .i64 ZD.left, .bool ZD.stopped] 25 (0, 0)) by rw [hW.out]; (repeat (first | simp only [heap_alloc_if] | simp only [World.size_alloc])); repeat (first | rw [if_pos trivial] | rw [if_pos (by omega)] | rw [if_neg (by omega)]))
    replace HX1 := Lib.hid ((hB9.block _ (lt_heap HX1.out)).trans HX1.out)
    replace HV1 := Lib.hid (HV1.out.below hB9)
    replace HX3 := Lib.hid ((hB9.block _ (lt_heap HX3.out)).trans HX3.out)
    replace HV3 := Lib.hid (HV3.out.below hB9)
    replace HX7 := Lib.hid ((hB9.block _ (lt_heap HX7.out)).trans HX7.out)
    replace HV7 := Lib.hid (HV7.out.below hB9)
    replace HX9 := Lib.hid ((hB9.block _ (lt_heap HX9.out)).trans HX9.out)
    replace HV9 := Lib.hid (HV9.out.below hB9)
    replace HX10 := Lib.hid ((hB9.block _ (lt_heap HX10.out)).trans HX10.out)
    replace HV10 := Lib.hid (HV10.out.below hB9)
    replace HX12 := Lib.hid ((hB9.block _ (lt_heap HX12.out)).trans HX12.out)
    replace HV12 := Lib.hid (HV12.out.below hB9)
    replace HB := Lib.hid (HB.out.trans (hB9.mono HB.out.size))
    replace HV14 := Lib.hid (HV14.out.below hB9)
    replace HV15 := Lib.hid (HV15.out.below hB9)
    clear hW hB9
    have CO := Lib.hid (room_any W13 (fun _ => True) L0 _ HF0.out HV3.out)
    rw [HEx.out.room] at CO
    refine CO.out.mono ?_
    rintro e w14 ⟨rfl, hb⟩
    replace HX1 := Lib.hid ((hb.block _ (lt_heap HX1.out)).trans HX1.out)
    replace HV1 := Lib.hid (HV1.out.below hb)
    replace HX3 := Lib.hid ((hb.block _ (lt_heap HX3.out)).trans HX3.out)
    replace HV3 := Lib.hid (HV3.out.below hb)
    replace HX7 := Lib.hid ((hb.block _ (lt_heap HX7.out)).trans HX7.out)
    replace HV7 := Lib.hid (HV7.out.below hb)
    replace HX9 := Lib.hid ((hb.block _ (lt_heap HX9.out)).trans HX9.out)
    replace HV9 := Lib.hid (HV9.out.below hb)
    replace HX10 := Lib.hid ((hb.block _ (lt_heap HX10.out)).trans HX10.out)
    replace HV10 := Lib.hid (HV10.out.below hb)
    replace HX12 := Lib.hid ((hb.block _ (lt_heap HX12.out)).trans HX12.out)
    replace HV12 := Lib.hid (HV12.out.below hb)
    replace HX14 := Lib.hid ((hb.block _ (lt_heap HX14.out)).trans HX14.out)
    replace HV14 := Lib.hid (HV14.out.below hb)
    replace HX15 := Lib.hid ((hb.block _ (lt_heap HX15.out)).trans HX15.out)
    replace HV15 := Lib.hid (HV15.out.below hb)
    replace HB := Lib.hid (HB.out.trans (hb.mono HB.out.size))
    clear hb CO
    have hq1 := lt_heap HX1.out
    obtain ⟨c1_0, c1_1, c1_2, c1_3⟩ := (blk4 (Below.refl _ _) HX1.out (lt_heap HX1.out)).1
    have hq3 := lt_heap HX3.out
    obtain ⟨c3_0, c3_1, c3_2⟩ := (blk3 (Below.refl _ _) HX3.out (lt_heap HX3.out)).1
    have hq7 := lt_heap HX7.out
    obtain ⟨c7_0, c7_1, c7_2⟩ := (blk3 (Below.refl _ _) HX7.out (lt_heap HX7.out)).1
    have hq9 := lt_heap HX9.out
    obtain ⟨c9_0, c9_1, c9_2⟩ := (blk3 (Below.refl _ _) HX9.out (lt_heap HX9.out)).1
    have hq10 := lt_heap HX10.out
    obtain ⟨c10_0, c10_1, c10_2, c10_3⟩ := (blk4 (Below.refl _ _) HX10.out (lt_heap HX10.out)).1
    have hq12 := lt_heap HX12.out
    obtain ⟨c12_0, c12_1, c12_2⟩ := (blk3 (Below.refl _ _) HX12.out (lt_heap HX12.out)).1
    have hq14 := lt_heap HX14.out
    obtain ⟨c14_0, c14_1, c14_2⟩ := (blk3 (Below.refl _ _) HX14.out (lt_heap HX14.out)).1
    have hq15 := lt_heap HX15.out
    obtain ⟨c15_0, c15_1, c15_2, c15_3⟩ := (blk4 (Below.refl _ _) HX15.out (lt_heap HX15.out)).1
    have hr3 := HV12.out.row
    rw [HEx.out.rec2] at hr3
    obtain ⟨b9, o9, bA9, bc9, hbe, hbl9, hck9, hb91, hb92, hb93⟩ := hr3.at_ (Below.refl _ _) (show 0 < [[97, 98]].length by decide)
    cases hbe
    have hcv : (convert 35 9 (.slice bA9 2 bc9)).run Try.prog w14 = .ok (.string ⟨#[97, 98]⟩) w14 := conv_bytes bc9 hb93
    have hck : w14.cell? ⟨b9, o9, none⟩ = some (.slice bA9 2 bc9) := hck9
    have CK := Lib.hid (lcheck_any w14 (fun _ => True) zeroL _ fit_nil IsLog.zero)
    rw [HEx.out.chk] at CK
    clear hr3 hb93 hck9 hb91 hb92 hbl9
    go_wp2_with fail
    refine CK.out.mono ?_
    rintro e w15 ⟨rfl, hb⟩
    have HB15 := Lib.hid (HB.out.trans (hb.mono HB.out.size))
    clear hb hcv hck
    clear c1_0 c1_1 c1_2 c1_3 c3_0 c3_1 c3_2 c7_0 c7_1 c7_2 c9_0 c9_1 c9_2 c10_0 c10_1 c10_2 c10_3 c12_0 c12_1 c12_2 c14_0 c14_1 c14_2 c15_0 c15_1 c15_2 c15_3 hq1 hq3 hq7 hq9 hq10 hq12 hq14 hq15
    go_wp2_with fail
    go_ret
    exact ⟨rfl, HB15.out⟩
end Go.Proofs.Ytocjhepiooljpaa
