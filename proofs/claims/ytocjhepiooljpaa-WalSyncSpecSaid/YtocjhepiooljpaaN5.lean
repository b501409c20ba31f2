/- The law WalSyncSpec. -/
import Derived.Test.YtocjhepiooljpaaN3
import Derived.Test.YtocjhepiooljpaaA19
namespace Go.Proofs.Ytocjhepiooljpaa
open Go.RowKit Go.Deep Go.Shelf

theorem syncL_recs (l : LogD) (d : DiskD) : (syncL l d).1.recs = l.recs ∨ (syncL l d).1.recs = [] := by
  unfold syncL
  dsimp only
  repeat' split
  all_goals first | exact .inl rfl | exact .inr rfl
theorem IsLog.mat_ {w : World} {M : Nat → Prop} {a s r : Value} {l : LogD} (h : IsLog w M (.agg #[a, r, s]) l) : IsMat w M r l.recs := by
  obtain ⟨rv, e, h3⟩ := h
  simp only [Value.agg.injEq, Array.mk.injEq, List.cons.injEq, and_true] at e
  rw [e.2.1]; exact h3
set_option maxRecDepth 20000 in
set_option maxHeartbeats 4000000 in
theorem law5 (w : World) (M M' : Nat → Prop) (u : Value) (l : LogD) (h : IsLog w M u l) (hf : FitR l.recs) (d : DiskD) (v : Value) (h1 : IsDisk w M' v d) : Calls Try.prog 5 #[u, v] w fun e w' => e = .returned (.bool true) ∧ Below w.heap.size w w' := by
  obtain ⟨L, E, c, hS⟩ : ∃ L E c, syncL l d = (L, E, c) := ⟨_, _, _, rfl⟩
  have hLL : L.recs.length ≤ 140737488355328 := by
    have := syncL_recs l d
    rw [hS] at this
    have := hf.len
    rcases ‹_ ∨ _› with h | h <;> (rw [h]; first | omega | simp)
  have HS := Lib.hid hS
  have HLL := Lib.hid hLL
  have HF := Lib.hid hf
  clear hS hLL hf
  obtain ⟨rA2, rc2, rfl, hl2⟩ := h.form rfl rfl
  obtain ⟨sA3, sc3, pA3, pc3, rfl, -⟩ := h1.parts
  have HVl := Lib.hid hl2
  have HVd := Lib.hid h1
  clear h h1 hl2
  go_enter Try.func5, Try.ntmps5
  go_wp2_with fail
  refine nameW fun W1 hW => ?_
  have hB9 : Below w.heap.size w W1 := by rw [hW.out]; repeat (first | with_reducible exact Below.refl _ _ | with_reducible refine Below.drew ?_ | refine Below.alloc ?_ (by simp) _)
  have HX2 := Lib.hid (show W1.heap[w.heap.size]? = some (.cells #[.int .i64 l.many, .slice rA2 l.recs.length rc2, .int .i64 l.synced] 29 (0, 0)) by rw [hW.out]; (repeat (first | simp only [heap_drew] | simp only [heap_alloc_if] | simp only [World.size_alloc])); repeat (first | rw [if_pos trivial] | rw [if_pos (by omega)] | rw [if_neg (by omega)]))
  have HX3 := Lib.hid (show W1.heap[w.heap.size + 1]? = some (.cells #[.slice sA3 d.sectors.length sc3, .slice pA3 d.pending.length pc3, .int .i64 d.left, .bool d.stopped] 25 (0, 0)) by rw [hW.out]; (repeat (first | simp only [heap_drew] | simp only [heap_alloc_if] | simp only [World.size_alloc])); repeat (first | rw [if_pos trivial] | rw [if_pos (by omega)] | rw [if_neg (by omega)]))
  replace HVl := Lib.hid (HVl.out.below hB9)
  replace HVd := Lib.hid (HVd.out.below hB9)
  have HB := Lib.hid hB9
  clear hW hB9
  have CO := Lib.hid (sane_any W1)
  refine CO.out.mono ?_
  rintro e w2 ⟨rfl, hb⟩
  clear CO
  replace HX2 := Lib.hid ((hb.block _ (lt_heap HX2.out)).trans HX2.out)
  replace HX3 := Lib.hid ((hb.block _ (lt_heap HX3.out)).trans HX3.out)
  replace HVl := Lib.hid (HVl.out.below hb)
  replace HVd := Lib.hid (HVd.out.below hb)
  replace HB := Lib.hid (HB.out.trans (hb.mono HB.out.size))
  clear hb
  have hq2 := lt_heap HX2.out
  have c2_0 := cell_of (j := 0) HX2.out rfl
  have c2_1 := cell_of (j := 1) HX2.out rfl
  have c2_2 := cell_of (j := 2) HX2.out rfl
  have hq3 := lt_heap HX3.out
  have c3_0 := cell_of (j := 0) HX3.out rfl
  have c3_1 := cell_of (j := 1) HX3.out rfl
  have c3_2 := cell_of (j := 2) HX3.out rfl
  have c3_3 := cell_of (j := 3) HX3.out rfl
  go_wp2_with fail
  clear c2_0 c2_1 c2_2 c3_0 c3_1 c3_2 c3_3 hq2 hq3
  have CO := Lib.hid (few_any w2 _ _ d _ HVd.out l.recs _ HF.out.lens (by have := HF.out.len; omega) HVl.out.mat_)
  refine CO.out.mono ?_
  rintro e w3 ⟨z, rfl, -, hb⟩
  clear CO
  replace HX2 := Lib.hid ((hb.block _ (lt_heap HX2.out)).trans HX2.out)
  replace HX3 := Lib.hid ((hb.block _ (lt_heap HX3.out)).trans HX3.out)
  replace HVl := Lib.hid (HVl.out.below hb)
  replace HVd := Lib.hid (HVd.out.below hb)
  replace HB := Lib.hid (HB.out.trans (hb.mono HB.out.size))
  clear hb
  have hq2 := lt_heap HX2.out
  have c2_0 := cell_of (j := 0) HX2.out rfl
  have c2_1 := cell_of (j := 1) HX2.out rfl
  have c2_2 := cell_of (j := 2) HX2.out rfl
  have hq3 := lt_heap HX3.out
  have c3_0 := cell_of (j := 0) HX3.out rfl
  have c3_1 := cell_of (j := 1) HX3.out rfl
  have c3_2 := cell_of (j := 2) HX3.out rfl
  have c3_3 := cell_of (j := 3) HX3.out rfl
  cases z
  · skip
    go_wp2_with fail
    go_ret
    exact ⟨rfl, HB.out⟩
  go_wp2_with fail
  clear c2_0 c2_1 c2_2 c3_0 c3_1 c3_2 c3_3 hq2 hq3
  have CO := Lib.hid (syncW_any w3 (fun _ => True) l _ (HVl.out.mono fun _ _ _ => trivial) HF.out d _ (HVd.out.mono fun _ _ _ => trivial))
  rw [HS.out] at CO
  refine CO.out.mono ?_
  rintro e w4 ⟨lv, dv, rfl, hl, hd, hb⟩
  clear CO
  obtain ⟨rA5, rc5, rfl, hv⟩ := hl.form rfl rfl
  have HV5 := Lib.hid (hv.mono (M' := (fun _ => True)) fun _ _ _ => trivial)
  clear hl hv
  obtain ⟨sA6, sc6, pA6, pc6, rfl, -⟩ := hd.parts
  have HV6 := Lib.hid (hd.mono (M' := (fun _ => True)) fun _ _ _ => trivial)
  clear hd
  replace HX2 := Lib.hid ((hb.block _ (lt_heap HX2.out)).trans HX2.out)
  replace HX3 := Lib.hid ((hb.block _ (lt_heap HX3.out)).trans HX3.out)
  replace HVl := Lib.hid (HVl.out.below hb)
  replace HVd := Lib.hid (HVd.out.below hb)
  replace HB := Lib.hid (HB.out.trans (hb.mono HB.out.size))
  clear hb
  have hq2 := lt_heap HX2.out
  have c2_0 := cell_of (j := 0) HX2.out rfl
  have c2_1 := cell_of (j := 1) HX2.out rfl
  have c2_2 := cell_of (j := 2) HX2.out rfl
  have hq3 := lt_heap HX3.out
  have c3_0 := cell_of (j := 0) HX3.out rfl
  have c3_1 := cell_of (j := 1) HX3.out rfl
  have c3_2 := cell_of (j := 2) HX3.out rfl
  have c3_3 := cell_of (j := 3) HX3.out rfl
  go_wp2_with fail
  clear c2_0 c2_1 c2_2 c3_0 c3_1 c3_2 c3_3 hq2 hq3
  refine nameW fun W5 hW => ?_
  have hB9 : Below w4.heap.size w4 W5 := by rw [hW.out]; repeat (first | with_reducible exact Below.refl _ _ | with_reducible refine Below.drew ?_ | refine Below.alloc ?_ (by simp) _)
  have HX5 := Lib.hid (show W5.heap[w4.heap.size]? = some (.cells #[.int .i64 L.many, .slice rA5 L.recs.length rc5, .int .i64 L.synced] 29 (0, 0)) by rw [hW.out]; (repeat (first | simp only [heap_drew] | simp only [heap_alloc_if] | simp only [World.size_alloc])); repeat (first | rw [if_pos trivial] | rw [if_pos (by omega)] | rw [if_neg (by omega)]))
  have HX6 := Lib.hid (show W5.heap[w4.heap.size + 1]? = some (.cells #[.slice sA6 E.sectors.length sc6, .slice pA6 E.pending.length pc6, .int .i64 E.left, .bool E.stopped] 25 (0, 0)) by rw [hW.out]; (repeat (first | simp only [heap_drew] | simp only [heap_alloc_if] | simp only [World.size_alloc])); repeat (first | rw [if_pos trivial] | rw [if_pos (by omega)] | rw [if_neg (by omega)]))
  replace HX2 := Lib.hid ((hB9.block _ (lt_heap HX2.out)).trans HX2.out)
  replace HX3 := Lib.hid ((hB9.block _ (lt_heap HX3.out)).trans HX3.out)
  replace HVl := Lib.hid (HVl.out.below hB9)
  replace HVd := Lib.hid (HVd.out.below hB9)
  replace HV5 := Lib.hid (HV5.out.below hB9)
  replace HV6 := Lib.hid (HV6.out.below hB9)
  replace HB := Lib.hid (HB.out.trans (hB9.mono HB.out.size))
  clear hW hB9
  have CO := Lib.hid (refSyncW_any W5 (fun _ => True) l _ (HVl.out.mono fun _ _ _ => trivial) HF.out d _ (HVd.out.mono fun _ _ _ => trivial))
  rw [HS.out] at CO
  refine CO.out.mono ?_
  rintro e w6 ⟨lv, dv, rfl, hl, hd, hb⟩
  clear CO
  obtain ⟨rA8, rc8, rfl, hv⟩ := hl.form rfl rfl
  have HV8 := Lib.hid (hv.mono (M' := (fun _ => True)) fun _ _ _ => trivial)
  clear hl hv
  obtain ⟨sA9, sc9, pA9, pc9, rfl, -⟩ := hd.parts
  have HV9 := Lib.hid (hd.mono (M' := (fun _ => True)) fun _ _ _ => trivial)
  clear hd
  replace HX2 := Lib.hid ((hb.block _ (lt_heap HX2.out)).trans HX2.out)
  replace HX3 := Lib.hid ((hb.block _ (lt_heap HX3.out)).trans HX3.out)
  replace HX5 := Lib.hid ((hb.block _ (lt_heap HX5.out)).trans HX5.out)
  replace HX6 := Lib.hid ((hb.block _ (lt_heap HX6.out)).trans HX6.out)
  replace HVl := Lib.hid (HVl.out.below hb)
  replace HVd := Lib.hid (HVd.out.below hb)
  replace HV5 := Lib.hid (HV5.out.below hb)
  replace HV6 := Lib.hid (HV6.out.below hb)
  replace HB := Lib.hid (HB.out.trans (hb.mono HB.out.size))
  clear hb
  have hq2 := lt_heap HX2.out
  have c2_0 := cell_of (j := 0) HX2.out rfl
  have c2_1 := cell_of (j := 1) HX2.out rfl
  have c2_2 := cell_of (j := 2) HX2.out rfl
  have hq3 := lt_heap HX3.out
  have c3_0 := cell_of (j := 0) HX3.out rfl
  have c3_1 := cell_of (j := 1) HX3.out rfl
  have c3_2 := cell_of (j := 2) HX3.out rfl
  have c3_3 := cell_of (j := 3) HX3.out rfl
  have hq5 := lt_heap HX5.out
  have c5_0 := cell_of (j := 0) HX5.out rfl
  have c5_1 := cell_of (j := 1) HX5.out rfl
  have c5_2 := cell_of (j := 2) HX5.out rfl
  have hq6 := lt_heap HX6.out
  have c6_0 := cell_of (j := 0) HX6.out rfl
  have c6_1 := cell_of (j := 1) HX6.out rfl
  have c6_2 := cell_of (j := 2) HX6.out rfl
  have c6_3 := cell_of (j := 3) HX6.out rfl
  go_wp2_with fail
  clear c2_0 c2_1 c2_2 c3_0 c3_1 c3_2 c3_3 c5_0 c5_1 c5_2 c6_0 c6_1 c6_2 c6_3 hq2 hq3 hq5 hq6
  refine nameW fun W7 hW => ?_
  have hB9 : Below w6.heap.size w6 W7 := by rw [hW.out]; repeat (first | with_reducible exact Below.refl _ _ | with_reducible refine Below.drew ?_ | refine Below.alloc ?_ (by simp) _)
  have HX8 := Lib.hid (show W7.heap[w6.heap.size]? = some (.cells #[.int .i64 L.many, .slice rA8 L.recs.length rc8, .int .i64 L.synced] 29 (0, 0)) by rw [hW.out]; (repeat (first | simp only [heap_drew] | simp only [heap_alloc_if] | simp only [World.size_alloc])); repeat (first | rw [if_pos trivial] | rw [if_pos (by omega)] | rw [if_neg (by omega)]))
  have HX9 := Lib.hid (show W7.heap[w6.heap.size + 1]? = some (.cells #[.slice sA9 E.sectors.length sc9, .slice pA9 E.pending.length pc9, .int .i64 E.left, .bool E.stopped] 25 (0, 0)) by rw [hW.out]; (repeat (first | simp only [heap_drew] | simp only [heap_alloc_if] | simp only [World.size_alloc])); repeat (first | rw [if_pos trivial] | rw [if_pos (by omega)] | rw [if_neg (by omega)]))
  replace HX2 := Lib.hid ((hB9.block _ (lt_heap HX2.out)).trans HX2.out)
  replace HX3 := Lib.hid ((hB9.block _ (lt_heap HX3.out)).trans HX3.out)
  replace HX5 := Lib.hid ((hB9.block _ (lt_heap HX5.out)).trans HX5.out)
  replace HX6 := Lib.hid ((hB9.block _ (lt_heap HX6.out)).trans HX6.out)
  replace HVl := Lib.hid (HVl.out.below hB9)
  replace HVd := Lib.hid (HVd.out.below hB9)
  replace HV5 := Lib.hid (HV5.out.below hB9)
  replace HV6 := Lib.hid (HV6.out.below hB9)
  replace HV8 := Lib.hid (HV8.out.below hB9)
  replace HV9 := Lib.hid (HV9.out.below hB9)
  replace HB := Lib.hid (HB.out.trans (hB9.mono HB.out.size))
  clear hW hB9
  have CO := Lib.hid (lsame_any W7 _ _ L _ _ HLL.out HV5.out HV8.out)
  refine CO.out.mono ?_
  rintro e w8 ⟨rfl, hb⟩
  clear CO
  replace HX2 := Lib.hid ((hb.block _ (lt_heap HX2.out)).trans HX2.out)
  replace HX3 := Lib.hid ((hb.block _ (lt_heap HX3.out)).trans HX3.out)
  replace HX5 := Lib.hid ((hb.block _ (lt_heap HX5.out)).trans HX5.out)
  replace HX6 := Lib.hid ((hb.block _ (lt_heap HX6.out)).trans HX6.out)
  replace HX8 := Lib.hid ((hb.block _ (lt_heap HX8.out)).trans HX8.out)
  replace HX9 := Lib.hid ((hb.block _ (lt_heap HX9.out)).trans HX9.out)
  replace HVl := Lib.hid (HVl.out.below hb)
  replace HVd := Lib.hid (HVd.out.below hb)
  replace HV5 := Lib.hid (HV5.out.below hb)
  replace HV6 := Lib.hid (HV6.out.below hb)
  replace HV8 := Lib.hid (HV8.out.below hb)
  replace HV9 := Lib.hid (HV9.out.below hb)
  replace HB := Lib.hid (HB.out.trans (hb.mono HB.out.size))
  clear hb
  have hq2 := lt_heap HX2.out
  have c2_0 := cell_of (j := 0) HX2.out rfl
  have c2_1 := cell_of (j := 1) HX2.out rfl
  have c2_2 := cell_of (j := 2) HX2.out rfl
  have hq3 := lt_heap HX3.out
  have c3_0 := cell_of (j := 0) HX3.out rfl
  have c3_1 := cell_of (j := 1) HX3.out rfl
  have c3_2 := cell_of (j := 2) HX3.out rfl
  have c3_3 := cell_of (j := 3) HX3.out rfl
  have hq5 := lt_heap HX5.out
  have c5_0 := cell_of (j := 0) HX5.out rfl
  have c5_1 := cell_of (j := 1) HX5.out rfl
  have c5_2 := cell_of (j := 2) HX5.out rfl
  have hq6 := lt_heap HX6.out
  have c6_0 := cell_of (j := 0) HX6.out rfl
  have c6_1 := cell_of (j := 1) HX6.out rfl
  have c6_2 := cell_of (j := 2) HX6.out rfl
  have c6_3 := cell_of (j := 3) HX6.out rfl
  have hq8 := lt_heap HX8.out
  have c8_0 := cell_of (j := 0) HX8.out rfl
  have c8_1 := cell_of (j := 1) HX8.out rfl
  have c8_2 := cell_of (j := 2) HX8.out rfl
  have hq9 := lt_heap HX9.out
  have c9_0 := cell_of (j := 0) HX9.out rfl
  have c9_1 := cell_of (j := 1) HX9.out rfl
  have c9_2 := cell_of (j := 2) HX9.out rfl
  have c9_3 := cell_of (j := 3) HX9.out rfl
  go_wp2_with fail
  clear c2_0 c2_1 c2_2 c3_0 c3_1 c3_2 c3_3 c5_0 c5_1 c5_2 c6_0 c6_1 c6_2 c6_3 c8_0 c8_1 c8_2 c9_0 c9_1 c9_2 c9_3 hq2 hq3 hq5 hq6 hq8 hq9
  have CO := Lib.hid (same_any w8 _ _ E _ _ HV6.out HV9.out)
  refine CO.out.mono ?_
  rintro e w9 ⟨rfl, hb⟩
  clear CO
  replace HX2 := Lib.hid ((hb.block _ (lt_heap HX2.out)).trans HX2.out)
  replace HX3 := Lib.hid ((hb.block _ (lt_heap HX3.out)).trans HX3.out)
  replace HX5 := Lib.hid ((hb.block _ (lt_heap HX5.out)).trans HX5.out)
  replace HX6 := Lib.hid ((hb.block _ (lt_heap HX6.out)).trans HX6.out)
  replace HX8 := Lib.hid ((hb.block _ (lt_heap HX8.out)).trans HX8.out)
  replace HX9 := Lib.hid ((hb.block _ (lt_heap HX9.out)).trans HX9.out)
  replace HVl := Lib.hid (HVl.out.below hb)
  replace HVd := Lib.hid (HVd.out.below hb)
  replace HV5 := Lib.hid (HV5.out.below hb)
  replace HV6 := Lib.hid (HV6.out.below hb)
  replace HV8 := Lib.hid (HV8.out.below hb)
  replace HV9 := Lib.hid (HV9.out.below hb)
  replace HB := Lib.hid (HB.out.trans (hb.mono HB.out.size))
  clear hb
  have hcc : (c == c) = true := by simp
  go_wp2_with fail
  go_ret
  exact ⟨rfl, HB.out⟩
end Go.Proofs.Ytocjhepiooljpaa
