/- The law WalAppendSpec. -/
import Derived.Test.YtocjhepiooljpaaN5
namespace Go.Proofs.Ytocjhepiooljpaa
open Go.RowKit Go.Deep Go.Shelf

theorem appendL_recs (l : LogD) (b : List UInt8) : (appendL l b).1.recs = l.recs ++ [b] ∨ (appendL l b).1.recs = [] := by
  unfold appendL
  repeat' split
  all_goals first | exact .inl rfl | exact .inr rfl
set_option maxRecDepth 20000 in
set_option maxHeartbeats 4000000 in
theorem law4 (w : World) (M M' : Nat → Prop) (u : Value) (l : LogD) (h : IsLog w M u l) (hf : FitR l.recs) (b : List UInt8) (v : Value) (hu : IsBytes w M' v b) (hb : b.length ≤ 140737488355328) : Calls Try.prog 4 #[u, v] w fun e w' => e = .returned (.bool true) ∧ Below w.heap.size w w' := by
  obtain ⟨X, c, hA⟩ : ∃ X c, appendL l b = (X, c) := ⟨_, _, rfl⟩
  have hXL : X.recs.length ≤ 140737488355328 := by
    have := appendL_recs l b
    rw [hA] at this
    have := hf.len
    rcases ‹_ ∨ _› with h | h <;> (rw [h]; first | (rw [List.length_append, List.length_singleton]; omega) | simp)
  have HA := Lib.hid hA
  have HXL := Lib.hid hXL
  have HF := Lib.hid hf
  have HBL := Lib.hid hb
  clear hA hXL hf hb
  obtain ⟨rA2, rc2, rfl, hl2⟩ := h.form rfl rfl
  obtain ⟨bA, bc, rfl, hb1, hb2, hb3⟩ := id hu
  have HVl := Lib.hid hl2
  have HVu := Lib.hid hu
  clear h hu hl2 hb3
  go_enter Try.func4, Try.ntmps4
  go_wp2_with fail
  refine nameW fun W1 hW => ?_
  have hB9 : Below w.heap.size w W1 := by rw [hW.out]; repeat (first | with_reducible exact Below.refl _ _ | with_reducible refine Below.drew ?_ | refine Below.alloc ?_ (by simp) _)
  have HX2 := Lib.hid (show W1.heap[w.heap.size]? = some (.cells #[.int .i64 l.many, .slice rA2 l.recs.length rc2, .int .i64 l.synced] 29 (0, 0)) by rw [hW.out]; (repeat (first | simp only [heap_drew] | simp only [heap_alloc_if] | simp only [World.size_alloc])); repeat (first | rw [if_pos trivial] | rw [if_pos (by omega)] | rw [if_neg (by omega)]))
  replace HVl := Lib.hid (HVl.out.below hB9)
  replace HVu := Lib.hid (HVu.out.below hB9)
  have HB := Lib.hid hB9
  clear hW hB9
  have CO := Lib.hid (sane_any W1)
  refine CO.out.mono ?_
  rintro e w2 ⟨rfl, hb⟩
  clear CO
  replace HX2 := Lib.hid ((hb.block _ (lt_heap HX2.out)).trans HX2.out)
  replace HVl := Lib.hid (HVl.out.below hb)
  replace HVu := Lib.hid (HVu.out.below hb)
  replace HB := Lib.hid (HB.out.trans (hb.mono HB.out.size))
  clear hb
  have hq2 := lt_heap HX2.out
  have c2_0 := cell_of (j := 0) HX2.out rfl
  have c2_1 := cell_of (j := 1) HX2.out rfl
  have c2_2 := cell_of (j := 2) HX2.out rfl
  go_wp2_with fail
  clear c2_0 c2_1 c2_2 hq2
  have CO := Lib.hid (few_any w2 (fun _ => True) _ zeroD _ IsDisk.zero l.recs _ HF.out.lens (by have := HF.out.len; omega) HVl.out.mat_)
  refine CO.out.mono ?_
  rintro e w3 ⟨z, rfl, -, hb⟩
  clear CO
  replace HX2 := Lib.hid ((hb.block _ (lt_heap HX2.out)).trans HX2.out)
  replace HVl := Lib.hid (HVl.out.below hb)
  replace HVu := Lib.hid (HVu.out.below hb)
  replace HB := Lib.hid (HB.out.trans (hb.mono HB.out.size))
  clear hb
  have hq2 := lt_heap HX2.out
  have c2_0 := cell_of (j := 0) HX2.out rfl
  have c2_1 := cell_of (j := 1) HX2.out rfl
  have c2_2 := cell_of (j := 2) HX2.out rfl
  cases z
  · skip
    go_wp2_with fail
    go_ret
    exact ⟨rfl, HB.out⟩
  by_cases h70 : 70000 < b.length
  · skip
    have h71 : (70000 : Int) < (b.length : Int) := by omega
    go_wp2_with fail
    go_ret
    exact ⟨rfl, HB.out⟩
  have h71 : ¬ (70000 : Int) < (b.length : Int) := by omega
  go_wp2_with fail
  clear c2_0 c2_1 c2_2 hq2
  clear h71 h70
  have CO := Lib.hid (append_any w3 (fun _ => True) l _ _ b HF.out HBL.out (HVl.out.mono fun _ _ _ => trivial) (HVu.out.mono fun _ _ _ => trivial))
  rw [HA.out] at CO
  refine CO.out.mono ?_
  rintro e w4 ⟨v, rfl, hl, hb⟩
  clear CO
  obtain ⟨rA5, rc5, rfl, hv⟩ := hl.form rfl rfl
  have HV5 := Lib.hid (hv.mono (M' := (fun _ => True)) fun _ _ _ => trivial)
  clear hl hv
  replace HX2 := Lib.hid ((hb.block _ (lt_heap HX2.out)).trans HX2.out)
  replace HVl := Lib.hid (HVl.out.below hb)
  replace HVu := Lib.hid (HVu.out.below hb)
  replace HB := Lib.hid (HB.out.trans (hb.mono HB.out.size))
  clear hb
  have hq2 := lt_heap HX2.out
  have c2_0 := cell_of (j := 0) HX2.out rfl
  have c2_1 := cell_of (j := 1) HX2.out rfl
  have c2_2 := cell_of (j := 2) HX2.out rfl
  go_wp2_with fail
  clear c2_0 c2_1 c2_2 hq2
  refine nameW fun W5 hW => ?_
  have hB9 : Below w4.heap.size w4 W5 := by rw [hW.out]; repeat (first | with_reducible exact Below.refl _ _ | with_reducible refine Below.drew ?_ | refine Below.alloc ?_ (by simp) _)
  have HX5 := Lib.hid (show W5.heap[w4.heap.size]? = some (.cells #[.int .i64 X.many, .slice rA5 X.recs.length rc5, .int .i64 X.synced] 29 (0, 0)) by rw [hW.out]; (repeat (first | simp only [heap_drew] | simp only [heap_alloc_if] | simp only [World.size_alloc])); repeat (first | rw [if_pos trivial] | rw [if_pos (by omega)] | rw [if_neg (by omega)]))
  replace HX2 := Lib.hid ((hB9.block _ (lt_heap HX2.out)).trans HX2.out)
  replace HVl := Lib.hid (HVl.out.below hB9)
  replace HVu := Lib.hid (HVu.out.below hB9)
  replace HV5 := Lib.hid (HV5.out.below hB9)
  replace HB := Lib.hid (HB.out.trans (hB9.mono HB.out.size))
  clear hW hB9
  have CO := Lib.hid (refAppend_any W5 (fun _ => True) l _ _ b HF.out HBL.out (HVl.out.mono fun _ _ _ => trivial) (HVu.out.mono fun _ _ _ => trivial))
  rw [HA.out] at CO
  refine CO.out.mono ?_
  rintro e w6 ⟨v, rfl, hl, hb⟩
  clear CO
  obtain ⟨rA7, rc7, rfl, hv⟩ := hl.form rfl rfl
  have HV7 := Lib.hid (hv.mono (M' := (fun _ => True)) fun _ _ _ => trivial)
  clear hl hv
  replace HX2 := Lib.hid ((hb.block _ (lt_heap HX2.out)).trans HX2.out)
  replace HX5 := Lib.hid ((hb.block _ (lt_heap HX5.out)).trans HX5.out)
  replace HVl := Lib.hid (HVl.out.below hb)
  replace HVu := Lib.hid (HVu.out.below hb)
  replace HV5 := Lib.hid (HV5.out.below hb)
  replace HB := Lib.hid (HB.out.trans (hb.mono HB.out.size))
  clear hb
  have hq2 := lt_heap HX2.out
  have c2_0 := cell_of (j := 0) HX2.out rfl
  have c2_1 := cell_of (j := 1) HX2.out rfl
  have c2_2 := cell_of (j := 2) HX2.out rfl
  have hq5 := lt_heap HX5.out
  have c5_0 := cell_of (j := 0) HX5.out rfl
  have c5_1 := cell_of (j := 1) HX5.out rfl
  have c5_2 := cell_of (j := 2) HX5.out rfl
  go_upto_region 7 with fail
  clear c2_0 c2_1 c2_2 c5_0 c5_1 c5_2 hq2 hq5
  refine nameG fun W7 hW => ?_
  have hB9 : Below w6.heap.size w6 W7 := by rw [hW.out]; repeat (first | with_reducible exact Below.refl _ _ | with_reducible refine Below.drew ?_ | refine Below.alloc ?_ (by simp) _)
  have HX7 := Lib.hid (show W7.heap[w6.heap.size]? = some (.cells #[.int .i64 X.many, .slice rA7 X.recs.length rc7, .int .i64 X.synced] 29 (0, 0)) by rw [hW.out]; (repeat (first | simp only [heap_drew] | simp only [heap_alloc_if] | simp only [World.size_alloc])); repeat (first | rw [if_pos trivial] | rw [if_pos (by omega)] | rw [if_neg (by omega)]))
  replace HX2 := Lib.hid ((hB9.block _ (lt_heap HX2.out)).trans HX2.out)
  replace HX5 := Lib.hid ((hB9.block _ (lt_heap HX5.out)).trans HX5.out)
  replace HVl := Lib.hid (HVl.out.below hB9)
  replace HVu := Lib.hid (HVu.out.below hB9)
  replace HV5 := Lib.hid (HV5.out.below hB9)
  replace HV7 := Lib.hid (HV7.out.below hB9)
  replace HB := Lib.hid (HB.out.trans (hB9.mono HB.out.size))
  clear hW hB9
  obtain ⟨k, hk⟩ : ∃ k, k = chkL l := ⟨_, rfl⟩
  obtain ⟨r, hr⟩ : ∃ r, r = roomL l := ⟨_, rfl⟩
  have C1 := fun (W : World) (hB : Below W7.heap.size W7 W) => Lib.hid (lcheck_any W (fun _ => True) l _ HF.out ((HVl.out.below hB).mono fun _ _ _ => trivial))
  have C2 := fun (W : World) (hB : Below W7.heap.size W7 W) => Lib.hid (refLcheck_any W (fun _ => True) l _ HF.out ((HVl.out.below hB).mono fun _ _ _ => trivial))
  have C3 := fun (W : World) (hB : Below W7.heap.size W7 W) => Lib.hid (room_any W (fun _ => True) l _ HF.out ((HVl.out.below hB).mono fun _ _ _ => trivial))
  have C4 := fun (W : World) (hB : Below W7.heap.size W7 W) => Lib.hid (refRoom_any W (fun _ => True) l _ HF.out ((HVl.out.below hB).mono fun _ _ _ => trivial))
  have C5 := fun (W : World) (hB : Below W7.heap.size W7 W) => Lib.hid (lsame_any W _ _ X _ _ HXL.out (HV5.out.below hB) (HV7.out.below hB))
  rw [← hk] at C1 C2
  rw [← hr] at C3 C4
  have e1 : (k == k) = true := by simp
  have e2 : (r == r) = true := by simp
  have e3 : (c == c) = true := by simp
  clear hk hr
  have hq2 := lt_heap HX2.out
  have c2_0 := cell_of (j := 0) HX2.out rfl
  have c2_1 := cell_of (j := 1) HX2.out rfl
  have c2_2 := cell_of (j := 2) HX2.out rfl
  have hq5 := lt_heap HX5.out
  have c5_0 := cell_of (j := 0) HX5.out rfl
  have c5_1 := cell_of (j := 1) HX5.out rfl
  have c5_2 := cell_of (j := 2) HX5.out rfl
  have hq7 := lt_heap HX7.out
  have c7_0 := cell_of (j := 0) HX7.out rfl
  have c7_1 := cell_of (j := 1) HX7.out rfl
  have c7_2 := cell_of (j := 2) HX7.out rfl
  have HC := Lib.hid fun (W : World) (hW : Below W7.heap.size W7 W) => show (fun w' : World => w'.cell? ⟨w.heap.size, 0, none⟩ = some (.int .i64 l.many) ∧ w'.cell? ⟨w.heap.size, 1, none⟩ = some (.slice rA2 l.recs.length rc2) ∧ w'.cell? ⟨w.heap.size, 2, none⟩ = some (.int .i64 l.synced) ∧ w'.cell? ⟨w4.heap.size, 0, none⟩ = some (.int .i64 X.many) ∧ w'.cell? ⟨w4.heap.size, 1, none⟩ = some (.slice rA5 X.recs.length rc5) ∧ w'.cell? ⟨w4.heap.size, 2, none⟩ = some (.int .i64 X.synced) ∧ w'.cell? ⟨w6.heap.size, 0, none⟩ = some (.int .i64 X.many) ∧ w'.cell? ⟨w6.heap.size, 1, none⟩ = some (.slice rA7 X.recs.length rc7) ∧ w'.cell? ⟨w6.heap.size, 2, none⟩ = some (.int .i64 X.synced)) W from ⟨(hW.cell (p := ⟨w.heap.size, 0, none⟩) hq2).trans c2_0, (hW.cell (p := ⟨w.heap.size, 1, none⟩) hq2).trans c2_1, (hW.cell (p := ⟨w.heap.size, 2, none⟩) hq2).trans c2_2, (hW.cell (p := ⟨w4.heap.size, 0, none⟩) hq5).trans c5_0, (hW.cell (p := ⟨w4.heap.size, 1, none⟩) hq5).trans c5_1, (hW.cell (p := ⟨w4.heap.size, 2, none⟩) hq5).trans c5_2, (hW.cell (p := ⟨w6.heap.size, 0, none⟩) hq7).trans c7_0, (hW.cell (p := ⟨w6.heap.size, 1, none⟩) hq7).trans c7_1, (hW.cell (p := ⟨w6.heap.size, 2, none⟩) hq7).trans c7_2⟩
  go_region_held3 (fun w' => w'.cell? ⟨w.heap.size, 0, none⟩ = some (.int .i64 l.many) ∧ w'.cell? ⟨w.heap.size, 1, none⟩ = some (.slice rA2 l.recs.length rc2) ∧ w'.cell? ⟨w.heap.size, 2, none⟩ = some (.int .i64 l.synced) ∧ w'.cell? ⟨w4.heap.size, 0, none⟩ = some (.int .i64 X.many) ∧ w'.cell? ⟨w4.heap.size, 1, none⟩ = some (.slice rA5 X.recs.length rc5) ∧ w'.cell? ⟨w4.heap.size, 2, none⟩ = some (.int .i64 X.synced) ∧ w'.cell? ⟨w6.heap.size, 0, none⟩ = some (.int .i64 X.many) ∧ w'.cell? ⟨w6.heap.size, 1, none⟩ = some (.slice rA7 X.recs.length rc7) ∧ w'.cell? ⟨w6.heap.size, 2, none⟩ = some (.int .i64 X.synced)) (first | with_reducible exact ⟨c2_0, c2_1, c2_2, c5_0, c5_1, c5_2, c7_0, c7_1, c7_2⟩ | with_reducible exact HC.out _ (by repeat (first | with_reducible exact Below.refl _ _ | with_reducible exact HB9.out | (with_reducible refine Below.drew ?_) | (with_reducible refine belowN ?_ _)))) (first | (go_at_call 17; refine (C1 _ (by repeat (first | with_reducible exact Below.refl _ _ | with_reducible exact HB9.out | (with_reducible refine Below.drew ?_) | (with_reducible refine belowN ?_ _)))).out.mono ?_; rintro e w9 ⟨rfl, hb9⟩; have HB9 : Hid (Below W7.heap.size W7 w9) := Lib.hid ((show Below W7.heap.size W7 _ from (by repeat (first | with_reducible exact Below.refl _ _ | with_reducible exact HB9.out | (with_reducible refine Below.drew ?_) | (with_reducible refine belowN ?_ _)))).trans (hb9.mono (by first | exact Nat.le_refl _ | exact HB9.out.size | (simp; done) | (simp; exact HB9.out.size)))); clear hb9) | (go_at_call 18; refine (C2 _ (by repeat (first | with_reducible exact Below.refl _ _ | with_reducible exact HB9.out | (with_reducible refine Below.drew ?_) | (with_reducible refine belowN ?_ _)))).out.mono ?_; rintro e w9 ⟨rfl, hb9⟩; have HB9 : Hid (Below W7.heap.size W7 w9) := Lib.hid ((show Below W7.heap.size W7 _ from (by repeat (first | with_reducible exact Below.refl _ _ | with_reducible exact HB9.out | (with_reducible refine Below.drew ?_) | (with_reducible refine belowN ?_ _)))).trans (hb9.mono (by first | exact Nat.le_refl _ | exact HB9.out.size | (simp; done) | (simp; exact HB9.out.size)))); clear hb9) | (go_at_call 19; refine (C3 _ (by repeat (first | with_reducible exact Below.refl _ _ | with_reducible exact HB9.out | (with_reducible refine Below.drew ?_) | (with_reducible refine belowN ?_ _)))).out.mono ?_; rintro e w9 ⟨rfl, hb9⟩; have HB9 : Hid (Below W7.heap.size W7 w9) := Lib.hid ((show Below W7.heap.size W7 _ from (by repeat (first | with_reducible exact Below.refl _ _ | with_reducible exact HB9.out | (with_reducible refine Below.drew ?_) | (with_reducible refine belowN ?_ _)))).trans (hb9.mono (by first | exact Nat.le_refl _ | exact HB9.out.size | (simp; done) | (simp; exact HB9.out.size)))); clear hb9) | (go_at_call 20; refine (C4 _ (by repeat (first | with_reducible exact Below.refl _ _ | with_reducible exact HB9.out | (with_reducible refine Below.drew ?_) | (with_reducible refine belowN ?_ _)))).out.mono ?_; rintro e w9 ⟨rfl, hb9⟩; have HB9 : Hid (Below W7.heap.size W7 w9) := Lib.hid ((show Below W7.heap.size W7 _ from (by repeat (first | with_reducible exact Below.refl _ _ | with_reducible exact HB9.out | (with_reducible refine Below.drew ?_) | (with_reducible refine belowN ?_ _)))).trans (hb9.mono (by first | exact Nat.le_refl _ | exact HB9.out.size | (simp; done) | (simp; exact HB9.out.size)))); clear hb9) | (go_at_call 14; refine (C5 _ (by repeat (first | with_reducible exact Below.refl _ _ | with_reducible exact HB9.out | (with_reducible refine Below.drew ?_) | (with_reducible refine belowN ?_ _)))).out.mono ?_; rintro e w9 ⟨rfl, hb9⟩; have HB9 : Hid (Below W7.heap.size W7 w9) := Lib.hid ((show Below W7.heap.size W7 _ from (by repeat (first | with_reducible exact Below.refl _ _ | with_reducible exact HB9.out | (with_reducible refine Below.drew ?_) | (with_reducible refine belowN ?_ _)))).trans (hb9.mono (by first | exact Nat.le_refl _ | exact HB9.out.size | (simp; done) | (simp; exact HB9.out.size)))); clear hb9) | fail)
  all_goals
    go_wp2_with fail
    go_ret
    exact ⟨rfl, HB.out.trans (Below.mono (by repeat (first | with_reducible exact Below.refl _ _ | with_reducible exact HB9.out | (with_reducible refine Below.drew ?_) | (with_reducible refine belowN ?_ _))) HB.out.size)⟩
end Go.Proofs.Ytocjhepiooljpaa
