/- The law WalRoom. -/
import Derived.Test.YtocjhepiooljpaaS9
namespace Go.Proofs.Ytocjhepiooljpaa
open Go.RowKit Go.Deep Go.Shelf

theorem IsLog.mat9 {w : World} {M : Nat → Prop} {a s r : Value} {l : LogD} (h : IsLog w M (.agg #[a, r, s]) l) : IsMat w M r l.recs := by
  obtain ⟨rv, e, h3⟩ := h
  simp only [Value.agg.injEq, Array.mk.injEq, List.cons.injEq, and_true] at e
  rw [e.2.1]; exact h3
theorem IsBytes.bytesC {w : World} {M : Nat → Prop} {A : Option Addr} {n c : Nat} {b : List UInt8} (h : IsBytes w M (.slice A n c) b) : BytesC w M A b := by
  obtain ⟨A', c', e, -, -, h3⟩ := h
  simp only [Value.slice.injEq] at e
  rw [e.1]; exact h3
set_option maxRecDepth 20000 in
set_option maxHeartbeats 4000000 in
theorem law6 (w : World) (M M' : Nat → Prop) (u : Value) (l : LogD) (h : IsLog w M u l) (hf : FitR l.recs) (hU : used l.recs ≤ 1048576) (b : List UInt8) (v : Value) (hu : IsBytes w M' v b) (hb : b.length ≤ 140737488355328) : Calls Try.prog 6 #[u, v] w fun e w' => e = .returned (.bool true) ∧ Below w.heap.size w w' := by
  have HF := Lib.hid hf
  have HBL := Lib.hid hb
  have HU := Lib.hid hU
  clear hf hb hU
  obtain ⟨rA2, rc2, rfl, hl2⟩ := h.form rfl rfl
  obtain ⟨bA, bc, rfl, hb1, hb2, hb3⟩ := id hu
  have HVl := Lib.hid hl2
  have HVu := Lib.hid hu
  clear h hu hl2 hb3
  go_enter Try.func6, Try.ntmps6
  go_wp2_with fail
  refine nameW fun W1 hW => ?_
  have hB9 : Below w.heap.size w W1 := by rw [hW.out]; repeat (first | with_reducible exact Below.refl _ _ | with_reducible refine Below.drew ?_ | refine Below.alloc ?_ (by simp) _)
  have HX2 := Lib.hid (show W1.heap[w.heap.size]? = some (.cells #[.int .i64 l.many, .slice rA2 l.recs.length rc2, .int .i64 l.synced] 29 (0, 0)) by rw [hW.out]; (repeat (first | simp only [heap_drew] | simp only [heap_alloc_if] | simp only [World.size_alloc])); repeat (first | rw [if_pos trivial] | rw [if_pos (by omega)] | rw [if_neg (by omega)]))
  replace HVl := Lib.hid (HVl.out.below hB9)
  replace HVu := Lib.hid (HVu.out.below hB9)
  have HB := Lib.hid hB9
  clear hW hB9
  have CO := Lib.hid (sane_any W1)
  refine CO.out.mono ?_
  rintro e w2 ⟨rfl, hb⟩
  clear CO
  replace HX2 := Lib.hid ((hb.block _ (lt_heap HX2.out)).trans HX2.out)
  replace HVl := Lib.hid (HVl.out.below hb)
  replace HVu := Lib.hid (HVu.out.below hb)
  replace HB := Lib.hid (HB.out.trans (hb.mono HB.out.size))
  clear hb
  have hq2 := lt_heap HX2.out
  have c2_0 := cell_of (j := 0) HX2.out rfl
  have c2_1 := cell_of (j := 1) HX2.out rfl
  have c2_2 := cell_of (j := 2) HX2.out rfl
  go_wp2_with fail
  clear c2_0 c2_1 c2_2 hq2
  have CO := Lib.hid (few_any w2 (fun _ => True) _ zeroD _ IsDisk.zero l.recs _ HF.out.lens (by have := HF.out.len; omega) HVl.out.mat9)
  refine CO.out.mono ?_
  rintro e w3 ⟨z, rfl, -, hb⟩
  clear CO
  replace HX2 := Lib.hid ((hb.block _ (lt_heap HX2.out)).trans HX2.out)
  replace HVl := Lib.hid (HVl.out.below hb)
  replace HVu := Lib.hid (HVu.out.below hb)
  replace HB := Lib.hid (HB.out.trans (hb.mono HB.out.size))
  clear hb
  have hq2 := lt_heap HX2.out
  have c2_0 := cell_of (j := 0) HX2.out rfl
  have c2_1 := cell_of (j := 1) HX2.out rfl
  have c2_2 := cell_of (j := 2) HX2.out rfl
  cases z
  · skip
    go_wp2_with fail
    go_ret
    exact ⟨rfl, HB.out⟩
  by_cases h70 : 70000 < b.length
  · skip
    have h71 : (70000 : Int) < (b.length : Int) := by omega
    go_wp2_with fail
    go_ret
    exact ⟨rfl, HB.out⟩
  have h71 : ¬ (70000 : Int) < (b.length : Int) := by omega
  have H70 := Lib.hid h70
  clear h70
  go_wp2_with fail
  clear c2_0 c2_1 c2_2 hq2
  have CO := Lib.hid (lcheck_any w3 (fun _ => True) l _ HF.out (HVl.out.mono fun _ _ _ => trivial))
  refine CO.out.mono ?_
  rintro e w4 ⟨rfl, hb⟩
  clear CO
  replace HX2 := Lib.hid ((hb.block _ (lt_heap HX2.out)).trans HX2.out)
  replace HVl := Lib.hid (HVl.out.below hb)
  replace HVu := Lib.hid (HVu.out.below hb)
  replace HB := Lib.hid (HB.out.trans (hb.mono HB.out.size))
  clear hb
  have hq2 := lt_heap HX2.out
  have c2_0 := cell_of (j := 0) HX2.out rfl
  have c2_1 := cell_of (j := 1) HX2.out rfl
  have c2_2 := cell_of (j := 2) HX2.out rfl
  by_cases hok : okL l = true
  case neg =>
    have hok2 : okL l = false := by simpa using hok
    rw [chkL_no hok2]
    clear hok hok2
    go_wp2_with fail
    go_ret
    exact ⟨rfl, HB.out⟩
  rw [chkL_ok hok]
  obtain ⟨rm, hR⟩ := room_facts (b := b) hok HU.out HBL.out
  have HR := Lib.hid hR.room
  have hRC := hR.cases_
  clear hok hR
  go_wp2_with fail
  clear c2_0 c2_1 c2_2 hq2
  clear h71
  rcases hRC with ⟨hA, hlo⟩ | ⟨hA, ⟨h1, h2⟩, rm2, hr2, hlt2, hck2, hf2⟩
  · skip
    have HA := Lib.hid hA
    have HLO := Lib.hid hlo
    clear hA hlo
    have CO := Lib.hid (append_any w4 (fun _ => True) l _ _ b HF.out HBL.out (HVl.out.mono fun _ _ _ => trivial) (HVu.out.mono fun _ _ _ => trivial))
    rw [HA.out] at CO
    refine CO.out.mono ?_
    rintro e w5 ⟨v, rfl, hl, hb⟩
    clear CO
    obtain ⟨rA5, rc5, rfl, hv⟩ := hl.form (n := 0) (s := 0) rfl rfl
    have HV5 := Lib.hid (hv.mono (M' := (fun _ => True)) fun _ _ _ => trivial)
    clear hl hv
    replace HX2 := Lib.hid ((hb.block _ (lt_heap HX2.out)).trans HX2.out)
    replace HVl := Lib.hid (HVl.out.below hb)
    replace HVu := Lib.hid (HVu.out.below hb)
    replace HB := Lib.hid (HB.out.trans (hb.mono HB.out.size))
    clear hb
    have hq2 := lt_heap HX2.out
    have c2_0 := cell_of (j := 0) HX2.out rfl
    have c2_1 := cell_of (j := 1) HX2.out rfl
    have c2_2 := cell_of (j := 2) HX2.out rfl
    go_wp2_with fail
    clear c2_0 c2_1 c2_2 hq2
    refine nameW fun W6 hW => ?_
    have hB9 : Below w5.heap.size w5 W6 := by rw [hW.out]; repeat (first | with_reducible exact Below.refl _ _ | with_reducible refine Below.drew ?_ | refine Below.alloc ?_ (by simp) _)
    have HX5 := Lib.hid (show W6.heap[w5.heap.size]? = some (.cells #[.int .i64 zeroL.many, .slice rA5 0 rc5, .int .i64 0] 29 (0, 0)) by rw [hW.out]; (repeat (first | simp only [heap_drew] | simp only [heap_alloc_if] | simp only [World.size_alloc])); repeat (first | rw [if_pos trivial] | rw [if_pos (by omega)] | rw [if_neg (by omega)]))
    replace HX2 := Lib.hid ((hB9.block _ (lt_heap HX2.out)).trans HX2.out)
    replace HVl := Lib.hid (HVl.out.below hB9)
    replace HVu := Lib.hid (HVu.out.below hB9)
    replace HV5 := Lib.hid (HV5.out.below hB9)
    replace HB := Lib.hid (HB.out.trans (hB9.mono HB.out.size))
    clear hW hB9
    have CO := Lib.hid (room_any W6 (fun _ => True) l _ HF.out (HVl.out.mono fun _ _ _ => trivial))
    rw [HR.out] at CO
    refine CO.out.mono ?_
    rintro e w7 ⟨rfl, hb⟩
    clear CO
    replace HX2 := Lib.hid ((hb.block _ (lt_heap HX2.out)).trans HX2.out)
    replace HX5 := Lib.hid ((hb.block _ (lt_heap HX5.out)).trans HX5.out)
    replace HVl := Lib.hid (HVl.out.below hb)
    replace HVu := Lib.hid (HVu.out.below hb)
    replace HV5 := Lib.hid (HV5.out.below hb)
    replace HB := Lib.hid (HB.out.trans (hb.mono HB.out.size))
    clear hb
    have hq2 := lt_heap HX2.out
    have c2_0 := cell_of (j := 0) HX2.out rfl
    have c2_1 := cell_of (j := 1) HX2.out rfl
    have c2_2 := cell_of (j := 2) HX2.out rfl
    have hq5 := lt_heap HX5.out
    have c5_0 := cell_of (j := 0) HX5.out rfl
    have c5_1 := cell_of (j := 1) HX5.out rfl
    have c5_2 := cell_of (j := 2) HX5.out rfl
    have hlo := HLO.out
    by_cases h0 : rm = 0
    · skip
      have h1 : ¬ (0 : Int) < (rm : Int) := by omega
      clear hlo h0
      go_wp2_with fail
      go_ret
      exact ⟨rfl, HB.out⟩
    · skip
      have h1 : (0 : Int) < (rm : Int) := by omega
      have h2 : ¬ (b.length : Int) ≤ (rm : Int) := by have := hlo; omega
      clear hlo h0
      go_wp2_with fail
      go_ret
      exact ⟨rfl, HB.out⟩
  · skip
    have HA := Lib.hid hA
    have HK2 := Lib.hid hck2
    have HR2 := Lib.hid hr2
    have HF2 := Lib.hid hf2
    have hi1 : (0 : Int) < (rm : Int) := by omega
    have hi2 : (b.length : Int) ≤ (rm : Int) := by omega
    have hi3 : (rm2 : Int) < (rm : Int) := by omega
    have hlen : l.recs.length ≤ 1048576 := Nat.le_trans (used_bound _) HU.out
    clear hA hck2 hr2 hf2 h1 h2 hlt2
    have CO := Lib.hid (append_any w4 (fun _ => True) l _ _ b HF.out HBL.out (HVl.out.mono fun _ _ _ => trivial) (HVu.out.mono fun _ _ _ => trivial))
    rw [HA.out] at CO
    refine CO.out.mono ?_
    rintro e w5 ⟨v5, rfl, hl, hb⟩
    clear CO
    obtain ⟨rA5, rc5, he5, hv⟩ := hl.form (n := l.recs.length + 1) (s := l.synced) (by show (l.recs ++ [b]).length = _; simp) rfl
    obtain rfl : v5 = .agg #[.int .i64 l.many, .slice rA5 (l.recs.length + 1) rc5, .int .i64 l.synced] := he5
    have HV5 := Lib.hid (show IsLog w5 (fun _ => True) (.agg #[.int .i64 l.many, .slice rA5 (l.recs.length + 1) rc5, .int .i64 l.synced]) (plusL l b) from hv.mono fun _ _ _ => trivial)
    clear hl hv
    replace HX2 := Lib.hid ((hb.block _ (lt_heap HX2.out)).trans HX2.out)
    replace HVl := Lib.hid (HVl.out.below hb)
    replace HVu := Lib.hid (HVu.out.below hb)
    replace HB := Lib.hid (HB.out.trans (hb.mono HB.out.size))
    clear hb
    have hq2 := lt_heap HX2.out
    have c2_0 := cell_of (j := 0) HX2.out rfl
    have c2_1 := cell_of (j := 1) HX2.out rfl
    have c2_2 := cell_of (j := 2) HX2.out rfl
    go_wp2_with fail
    clear c2_0 c2_1 c2_2 hq2
    refine nameW fun W6 hW => ?_
    have hB9 : Below w5.heap.size w5 W6 := by rw [hW.out]; repeat (first | with_reducible exact Below.refl _ _ | with_reducible refine Below.drew ?_ | refine Below.alloc ?_ (by simp) _)
    have HX5 := Lib.hid (show W6.heap[w5.heap.size]? = some (.cells #[.int .i64 l.many, .slice rA5 (l.recs.length + 1) rc5, .int .i64 l.synced] 29 (0, 0)) by rw [hW.out]; (repeat (first | simp only [heap_drew] | simp only [heap_alloc_if] | simp only [World.size_alloc])); repeat (first | rw [if_pos trivial] | rw [if_pos (by omega)] | rw [if_neg (by omega)]))
    replace HX2 := Lib.hid ((hB9.block _ (lt_heap HX2.out)).trans HX2.out)
    replace HVl := Lib.hid (HVl.out.below hB9)
    replace HVu := Lib.hid (HVu.out.below hB9)
    replace HV5 := Lib.hid (HV5.out.below hB9)
    replace HB := Lib.hid (HB.out.trans (hB9.mono HB.out.size))
    clear hW hB9
    have CO := Lib.hid (room_any W6 (fun _ => True) l _ HF.out (HVl.out.mono fun _ _ _ => trivial))
    rw [HR.out] at CO
    refine CO.out.mono ?_
    rintro e w7 ⟨rfl, hb⟩
    clear CO
    replace HX2 := Lib.hid ((hb.block _ (lt_heap HX2.out)).trans HX2.out)
    replace HX5 := Lib.hid ((hb.block _ (lt_heap HX5.out)).trans HX5.out)
    replace HVl := Lib.hid (HVl.out.below hb)
    replace HVu := Lib.hid (HVu.out.below hb)
    replace HV5 := Lib.hid (HV5.out.below hb)
    replace HB := Lib.hid (HB.out.trans (hb.mono HB.out.size))
    clear hb
    have hm5 : MatC w7 (fun _ => True) rA5 (l.recs ++ [b]) := HV5.out.row
    obtain ⟨b9, o9, bA9, bc9, rfl, hbl9, hck9, hb91, hb92, hb93⟩ := hm5.at_ (Below.refl _ _) (show l.recs.length < (l.recs ++ [b]).length by simp)
    have hbb : (l.recs ++ [b])[l.recs.length]'(by simp) = b := by simp
    rw [hbb] at hck9 hb91 hb93
    have hm5t := hm5.take l.recs.length
    rw [List.take_left] at hm5t
    have hcap5 : l.recs.length < rc5 ∧ rc5 ≤ 9223372036854775807 := by
      obtain ⟨rv, e, A', c', rfl, q1, q2, -⟩ := id HV5.out
      simp only [Value.agg.injEq, Array.mk.injEq, List.cons.injEq, Value.slice.injEq, and_true] at e
      have := e.2.1.2
      omega
    have C1 := fun (W : World) (hB : Below w7.heap.size w7 W) => Lib.hid (lcheck_any W (fun _ => True) (plusL l b) _ HF2.out (HV5.out.below hB))
    have C2 := fun (W : World) (hB : Below w7.heap.size w7 W) => Lib.hid ((sameRecs_any W (fun _ => True) M l.recs l.recs (.slice (some ⟨b9, o9, none⟩) l.recs.length rc5) (.slice rA2 l.recs.length rc2) (by omega) (by omega) ⟨_, rc5, rfl, by omega, by omega, hm5t.keep fun _ _ hp => hB.cell hp⟩ (HVl.out.mat9.below hB)).mono (R' := fun e w' => e = Ending.returned (.bool true) ∧ Below W.heap.size W w') fun e w' ⟨he, m, hw⟩ => ⟨by rw [he, decide_eq_true rfl], by rw [hw]; exact belowN (Below.refl _ _) _⟩)
    have C3 := fun (W : World) (hB : Below w7.heap.size w7 W) => Lib.hid (room_any W (fun _ => True) (plusL l b) _ HF2.out (HV5.out.below hB))
    rw [HK2.out] at C1
    rw [HR2.out] at C3
    have e1 : (l.many == l.many) = true := by simp
    have e2 : (l.synced == l.synced) = true := by simp
    have e3 : ((l.recs.length : Int) + 1 == (l.recs.length : Int) + 1) = true := by simp
    have e31 : IntKind.i64.wrap ((l.recs.length : Int) + 1) = (l.recs.length : Int) + 1 := by rw [IntKind.wrap_i64]; omega
    have e4 : (l.recs.length : Int) < (l.recs.length : Int) + 1 := by omega
    have e7 : (l.recs.length : Int) ≤ 1048576 := by omega
    have e5 : (l.recs.length : Int) ≤ (rc5 : Int) := by omega
    have e6 : ¬ rc5 = 0 := by omega
    have e8 : l.recs.length ≤ rc5 := by omega
    have hq2 := lt_heap HX2.out
    have c2_0 := cell_of (j := 0) HX2.out rfl
    have c2_1 := cell_of (j := 1) HX2.out rfl
    have c2_2 := cell_of (j := 2) HX2.out rfl
    have hq5 := lt_heap HX5.out
    have c5_0 := cell_of (j := 0) HX5.out rfl
    have c5_1 := cell_of (j := 1) HX5.out rfl
    have c5_2 := cell_of (j := 2) HX5.out rfl
    go_upto_region 12 with fail
    have HC := Lib.hid fun (W : World) (hW : Below w7.heap.size w7 W) => show (fun w' : World => w'.cell? ⟨w.heap.size, 0, none⟩ = some (.int .i64 l.many) ∧ w'.cell? ⟨w.heap.size, 1, none⟩ = some (.slice rA2 l.recs.length rc2) ∧ w'.cell? ⟨w.heap.size, 2, none⟩ = some (.int .i64 l.synced) ∧ w'.cell? ⟨w5.heap.size, 0, none⟩ = some (.int .i64 l.many) ∧ w'.cell? ⟨w5.heap.size, 1, none⟩ = some (.slice (some ⟨b9, o9, none⟩) (l.recs.length + 1) rc5) ∧ w'.cell? ⟨w5.heap.size, 2, none⟩ = some (.int .i64 l.synced) ∧ w'.cell? ⟨b9, o9 + l.recs.length, none⟩ = some (.slice bA9 b.length bc9) ∧ (convert 35 9 (.slice bA9 b.length bc9)).run Try.prog w' = .ok (.string ⟨b.toArray⟩) w' ∧ (convert 35 9 (.slice bA b.length bc)).run Try.prog w' = .ok (.string ⟨b.toArray⟩) w') W from ⟨(hW.cell (p := ⟨w.heap.size, 0, none⟩) hq2).trans c2_0, (hW.cell (p := ⟨w.heap.size, 1, none⟩) hq2).trans c2_1, (hW.cell (p := ⟨w.heap.size, 2, none⟩) hq2).trans c2_2, (hW.cell (p := ⟨w5.heap.size, 0, none⟩) hq5).trans c5_0, (hW.cell (p := ⟨w5.heap.size, 1, none⟩) hq5).trans c5_1, (hW.cell (p := ⟨w5.heap.size, 2, none⟩) hq5).trans c5_2, (hW.cell (p := ⟨b9, o9 + l.recs.length, none⟩) hbl9).trans hck9, conv_bytes bc9 (hb93.keep fun _ _ hp => hW.cell hp), conv_bytes bc (HVu.out.bytesC.keep fun _ _ hp => hW.cell hp)⟩
    refine wp_region_held_drew (S := fun w' => w'.cell? ⟨w.heap.size, 0, none⟩ = some (.int .i64 l.many) ∧ w'.cell? ⟨w.heap.size, 1, none⟩ = some (.slice rA2 l.recs.length rc2) ∧ w'.cell? ⟨w.heap.size, 2, none⟩ = some (.int .i64 l.synced) ∧ w'.cell? ⟨w5.heap.size, 0, none⟩ = some (.int .i64 l.many) ∧ w'.cell? ⟨w5.heap.size, 1, none⟩ = some (.slice (some ⟨b9, o9, none⟩) (l.recs.length + 1) rc5) ∧ w'.cell? ⟨w5.heap.size, 2, none⟩ = some (.int .i64 l.synced) ∧ w'.cell? ⟨b9, o9 + l.recs.length, none⟩ = some (.slice bA9 b.length bc9) ∧ (convert 35 9 (.slice bA9 b.length bc9)).run Try.prog w' = .ok (.string ⟨b.toArray⟩) w' ∧ (convert 35 9 (.slice bA b.length bc)).run Try.prog w' = .ok (.string ⟨b.toArray⟩) w') (by kernel_rfl) (HC.out _ (Below.drew (Below.refl _ _))) (fun hHeld => ?_)
    change wpAnyH _ _ _ _ _ 52 #[false, false, false, false, false, false, false, false, false, false, false, false, false, false, false, false, false, false, false, false, false, false, false, false, false, false, false, false, false, false, false, false, false, false, false, false, false, false, false, false, false, false, false, false, false, false, false, false, false, false, false, false] _ w7.drew
    refine takeD (i := 0) (d := some 58) (v := ?_) rfl rfl (by kernel_rfl) (by kernel_rfl) (by kernel_rfl) (fun _ _ _ h => h) (Or.inl ⟨by rfl, ?_⟩) hHeld ?_
    rotate_left 1
    focus (intro w hSw; (try dsimp only at hSw); go_simp; (try with_reducible rfl))
    (repeat (first | simp only [Act.put] | simp only [List.setIfInBounds_toArray] | simp only [List.set_cons_zero] | simp only [List.set_cons_succ]))
    refine wpAnyH_ready (rs := [1]) (by kernel_rfl) (by simp) ?_
    refine AllReadyH.cons rfl (fun K hK => ?_) AllReadyH.nil
    go_simp
    go_at_call 17
    refine (C1 _ (by repeat (first | with_reducible exact Below.refl _ _ | with_reducible exact HB9.out | (with_reducible refine Below.drew ?_) | (with_reducible refine belowN ?_ _)))).out.mono ?_
    rintro e w9 ⟨rfl, hb9⟩
    have HB9 : Hid (Below w7.heap.size w7 w9) := Lib.hid ((show Below w7.heap.size w7 _ from (by repeat (first | with_reducible exact Below.refl _ _ | with_reducible exact HB9.out | (with_reducible refine Below.drew ?_) | (with_reducible refine belowN ?_ _)))).trans (hb9.mono (by first | exact Nat.le_refl _ | exact HB9.out.size | (simp; done) | (simp; exact HB9.out.size))))
    clear hb9
    refine hK.out _ _ (HC.out _ (by repeat (first | with_reducible exact Below.refl _ _ | with_reducible exact HB9.out | (with_reducible refine Below.drew ?_) | (with_reducible refine belowN ?_ _)))) (fun hHeld => ?_)
    clear hK K
    (repeat (first | simp only [Act.put] | simp only [List.setIfInBounds_toArray] | simp only [List.set_cons_zero] | simp only [List.set_cons_succ]))
    refine takeD (i := 2) (d := some 60) (v := ?_) rfl rfl (by kernel_rfl) (by kernel_rfl) (by kernel_rfl) (fun _ _ _ h => h) (Or.inl ⟨by rfl, ?_⟩) hHeld ?_
    rotate_left 1
    focus (intro w hSw; (try dsimp only at hSw); go_simp; (try with_reducible rfl))
    (repeat (first | simp only [Act.put] | simp only [List.setIfInBounds_toArray] | simp only [List.set_cons_zero] | simp only [List.set_cons_succ]))
    refine takeD (i := 3) (d := some 61) (v := ?_) rfl rfl (by kernel_rfl) (by kernel_rfl) (by kernel_rfl) (fun _ _ _ h => h) (Or.inl ⟨by rfl, ?_⟩) hHeld ?_
    rotate_left 1
    focus (intro w hSw; (try dsimp only at hSw); go_simp; (try with_reducible rfl))
    (repeat (first | simp only [Act.put] | simp only [List.setIfInBounds_toArray] | simp only [List.set_cons_zero] | simp only [List.set_cons_succ]))
    refine takeD (i := 4) (d := some 62) (v := ?_) rfl rfl (by kernel_rfl) (by kernel_rfl) (by kernel_rfl) (fun _ _ _ h => h) (Or.inl ⟨by rfl, ?_⟩) hHeld ?_
    rotate_left 1
    focus (intro w hSw; (try dsimp only at hSw); go_simp; (try with_reducible rfl))
    (repeat (first | simp only [Act.put] | simp only [List.setIfInBounds_toArray] | simp only [List.set_cons_zero] | simp only [List.set_cons_succ]))
    refine takeD (i := 5) (d := some 63) (v := ?_) rfl rfl (by kernel_rfl) (by kernel_rfl) (by kernel_rfl) (fun _ _ _ h => h) (Or.inl ⟨by rfl, ?_⟩) hHeld ?_
    rotate_left 1
    focus (intro w hSw; (try dsimp only at hSw); go_simp; (try with_reducible rfl))
    (repeat (first | simp only [Act.put] | simp only [List.setIfInBounds_toArray] | simp only [List.set_cons_zero] | simp only [List.set_cons_succ]))
    refine takeD (i := 6) (d := some 64) (v := ?_) rfl rfl (by kernel_rfl) (by kernel_rfl) (by kernel_rfl) (fun _ _ _ h => h) (Or.inl ⟨by rfl, ?_⟩) hHeld ?_
    rotate_left 1
    focus (intro w hSw; (try dsimp only at hSw); go_simp; (try with_reducible rfl))
    (repeat (first | simp only [Act.put] | simp only [List.setIfInBounds_toArray] | simp only [List.set_cons_zero] | simp only [List.set_cons_succ]))
    refine takeD (i := 7) (d := some 65) (v := ?_) rfl rfl (by kernel_rfl) (by kernel_rfl) (by kernel_rfl) (fun _ _ _ h => h) (Or.inl ⟨by rfl, ?_⟩) hHeld ?_
    rotate_left 1
    focus (intro w hSw; (try dsimp only at hSw); go_simp; (try with_reducible rfl))
    (repeat (first | simp only [Act.put] | simp only [List.setIfInBounds_toArray] | simp only [List.set_cons_zero] | simp only [List.set_cons_succ]))
    refine takeD (i := 8) (d := some 66) (v := ?_) rfl rfl (by kernel_rfl) (by kernel_rfl) (by kernel_rfl) (fun _ _ _ h => h) (Or.inl ⟨by rfl, ?_⟩) hHeld ?_
    rotate_left 1
    focus (intro w hSw; (try dsimp only at hSw); go_simp; (try with_reducible rfl))
    (repeat (first | simp only [Act.put] | simp only [List.setIfInBounds_toArray] | simp only [List.set_cons_zero] | simp only [List.set_cons_succ]))
    refine takeD (i := 9) (d := some 67) (v := ?_) rfl rfl (by kernel_rfl) (by kernel_rfl) (by kernel_rfl) (fun _ _ _ h => h) (Or.inl ⟨by rfl, ?_⟩) hHeld ?_
    rotate_left 1
    focus (intro w hSw; (try dsimp only at hSw); go_simp; (try with_reducible rfl))
    (repeat (first | simp only [Act.put] | simp only [List.setIfInBounds_toArray] | simp only [List.set_cons_zero] | simp only [List.set_cons_succ]))
    refine takeD (i := 10) (d := some 68) (v := ?_) rfl rfl (by kernel_rfl) (by kernel_rfl) (by kernel_rfl) (fun _ _ _ h => h) (Or.inl ⟨by rfl, ?_⟩) hHeld ?_
    rotate_left 1
    focus (intro w hSw; (try dsimp only at hSw); go_simp; (try with_reducible rfl))
    (repeat (first | simp only [Act.put] | simp only [List.setIfInBounds_toArray] | simp only [List.set_cons_zero] | simp only [List.set_cons_succ]))
    refine takeD (i := 11) (d := some 69) (v := ?_) rfl rfl (by kernel_rfl) (by kernel_rfl) (by kernel_rfl) (fun _ _ _ h => h) (Or.inl ⟨by rfl, ?_⟩) hHeld ?_
    rotate_left 1
    focus (intro w hSw; (try dsimp only at hSw); go_simp; (try with_reducible rfl))
    (repeat (first | simp only [Act.put] | simp only [List.setIfInBounds_toArray] | simp only [List.set_cons_zero] | simp only [List.set_cons_succ]))
    refine takeD (i := 12) (d := some 70) (v := ?_) rfl rfl (by kernel_rfl) (by kernel_rfl) (by kernel_rfl) (fun _ _ _ h => h) (Or.inl ⟨by rfl, ?_⟩) hHeld ?_
    rotate_left 1
    focus (intro w hSw; (try dsimp only at hSw); go_simp; (try with_reducible rfl))
    (repeat (first | simp only [Act.put] | simp only [List.setIfInBounds_toArray] | simp only [List.set_cons_zero] | simp only [List.set_cons_succ]))
    refine takeD (i := 13) (d := some 71) (v := ?_) rfl rfl (by kernel_rfl) (by kernel_rfl) (by kernel_rfl) (fun _ _ _ h => h) (Or.inl ⟨by rfl, ?_⟩) hHeld ?_
    rotate_left 1
    focus (intro w hSw; (try dsimp only at hSw); go_simp; (try with_reducible rfl))
    (repeat (first | simp only [Act.put] | simp only [List.setIfInBounds_toArray] | simp only [List.set_cons_zero] | simp only [List.set_cons_succ]))
    refine takeD (i := 14) (d := some 72) (v := ?_) rfl rfl (by kernel_rfl) (by kernel_rfl) (by kernel_rfl) (fun _ _ _ h => h) (Or.inl ⟨by rfl, ?_⟩) hHeld ?_
    rotate_left 1
    focus (intro w hSw; (try dsimp only at hSw); go_simp; (try with_reducible rfl))
    (repeat (first | simp only [Act.put] | simp only [List.setIfInBounds_toArray] | simp only [List.set_cons_zero] | simp only [List.set_cons_succ]))
    refine takeD (i := 15) (d := some 73) (v := ?_) rfl rfl (by kernel_rfl) (by kernel_rfl) (by kernel_rfl) (fun _ _ _ h => h) (Or.inl ⟨by rfl, ?_⟩) hHeld ?_
    rotate_left 1
    focus (intro w hSw; (try dsimp only at hSw); go_simp; (try with_reducible rfl))
    (repeat (first | simp only [Act.put] | simp only [List.setIfInBounds_toArray] | simp only [List.set_cons_zero] | simp only [List.set_cons_succ]))
    refine takeD (i := 16) (d := some 74) (v := ?_) rfl rfl (by kernel_rfl) (by kernel_rfl) (by kernel_rfl) (fun _ _ _ h => h) (Or.inl ⟨by rfl, ?_⟩) hHeld ?_
    rotate_left 1
    focus (intro w hSw; (try dsimp only at hSw); go_simp; (try with_reducible rfl))
    (repeat (first | simp only [Act.put] | simp only [List.setIfInBounds_toArray] | simp only [List.set_cons_zero] | simp only [List.set_cons_succ]))
    refine takeD (i := 17) (d := some 75) (v := ?_) rfl rfl (by kernel_rfl) (by kernel_rfl) (by kernel_rfl) (fun _ _ _ h => h) (Or.inl ⟨by rfl, ?_⟩) hHeld ?_
    rotate_left 1
    focus (intro w hSw; (try dsimp only at hSw); go_simp; (try with_reducible rfl))
    (repeat (first | simp only [Act.put] | simp only [List.setIfInBounds_toArray] | simp only [List.set_cons_zero] | simp only [List.set_cons_succ]))
    refine takeD (i := 18) (d := some 76) (v := ?_) rfl rfl (by kernel_rfl) (by kernel_rfl) (by kernel_rfl) (fun _ _ _ h => h) (Or.inl ⟨by rfl, ?_⟩) hHeld ?_
    rotate_left 1
    focus (intro w hSw; (try dsimp only at hSw); go_simp; (try with_reducible rfl))
    (repeat (first | simp only [Act.put] | simp only [List.setIfInBounds_toArray] | simp only [List.set_cons_zero] | simp only [List.set_cons_succ]))
    refine takeD (i := 19) (d := some 77) (v := ?_) rfl rfl (by kernel_rfl) (by kernel_rfl) (by kernel_rfl) (fun _ _ _ h => h) (Or.inl ⟨by rfl, ?_⟩) hHeld ?_
    rotate_left 1
    focus (intro w hSw; (try dsimp only at hSw); go_simp; (try with_reducible rfl))
    (repeat (first | simp only [Act.put] | simp only [List.setIfInBounds_toArray] | simp only [List.set_cons_zero] | simp only [List.set_cons_succ]))
    refine takeD (i := 20) (d := some 78) (v := ?_) rfl rfl (by kernel_rfl) (by kernel_rfl) (by kernel_rfl) (fun _ _ _ h => h) (Or.inl ⟨by rfl, ?_⟩) hHeld ?_
    rotate_left 1
    focus (intro w hSw; (try dsimp only at hSw); go_simp; (try with_reducible rfl))
    (repeat (first | simp only [Act.put] | simp only [List.setIfInBounds_toArray] | simp only [List.set_cons_zero] | simp only [List.set_cons_succ]))
    refine takeD (i := 21) (d := some 79) (v := ?_) rfl rfl (by kernel_rfl) (by kernel_rfl) (by kernel_rfl) (fun _ _ _ h => h) (Or.inl ⟨by rfl, ?_⟩) hHeld ?_
    rotate_left 1
    focus (intro w hSw; (try dsimp only at hSw); go_simp; (try with_reducible rfl))
    (repeat (first | simp only [Act.put] | simp only [List.setIfInBounds_toArray] | simp only [List.set_cons_zero] | simp only [List.set_cons_succ]))
    refine takeD (i := 22) (d := some 80) (v := ?_) rfl rfl (by kernel_rfl) (by kernel_rfl) (by kernel_rfl) (fun _ _ _ h => h) (Or.inl ⟨by rfl, ?_⟩) hHeld ?_
    rotate_left 1
    focus (intro w hSw; (try dsimp only at hSw); go_simp; (try with_reducible rfl))
    (repeat (first | simp only [Act.put] | simp only [List.setIfInBounds_toArray] | simp only [List.set_cons_zero] | simp only [List.set_cons_succ]))
    refine takeD (i := 23) (d := some 81) (v := ?_) rfl rfl (by kernel_rfl) (by kernel_rfl) (by kernel_rfl) (fun _ _ _ h => h) (Or.inl ⟨by rfl, ?_⟩) hHeld ?_
    rotate_left 1
    focus (intro w hSw; (try dsimp only at hSw); go_simp; (try with_reducible rfl))
    (repeat (first | simp only [Act.put] | simp only [List.setIfInBounds_toArray] | simp only [List.set_cons_zero] | simp only [List.set_cons_succ]))
    refine takeD (i := 24) (d := some 82) (v := ?_) rfl rfl (by kernel_rfl) (by kernel_rfl) (by kernel_rfl) (fun _ _ _ h => h) (Or.inl ⟨by rfl, ?_⟩) hHeld ?_
    rotate_left 1
    focus (intro w hSw; (try dsimp only at hSw); go_simp; (try with_reducible rfl))
    (repeat (first | simp only [Act.put] | simp only [List.setIfInBounds_toArray] | simp only [List.set_cons_zero] | simp only [List.set_cons_succ]))
    refine takeD (i := 25) (d := some 83) (v := ?_) rfl rfl (by kernel_rfl) (by kernel_rfl) (by kernel_rfl) (fun _ _ _ h => h) (Or.inl ⟨by rfl, ?_⟩) hHeld ?_
    rotate_left 1
    focus (intro w hSw; (try dsimp only at hSw); go_simp; (try with_reducible rfl))
    (repeat (first | simp only [Act.put] | simp only [List.setIfInBounds_toArray] | simp only [List.set_cons_zero] | simp only [List.set_cons_succ]))
    refine takeD (i := 26) (d := some 84) (v := ?_) rfl rfl (by kernel_rfl) (by kernel_rfl) (by kernel_rfl) (fun _ _ _ h => h) (Or.inl ⟨by rfl, ?_⟩) hHeld ?_
    rotate_left 1
    focus (intro w hSw; (try dsimp only at hSw); go_simp; (try with_reducible rfl))
    (repeat (first | simp only [Act.put] | simp only [List.setIfInBounds_toArray] | simp only [List.set_cons_zero] | simp only [List.set_cons_succ]))
    refine takeD (i := 27) (d := some 85) (v := ?_) rfl rfl (by kernel_rfl) (by kernel_rfl) (by kernel_rfl) (fun _ _ _ h => h) (Or.inl ⟨by rfl, ?_⟩) hHeld ?_
    rotate_left 1
    focus (intro w hSw; (try dsimp only at hSw); go_simp; (try with_reducible rfl))
    (repeat (first | simp only [Act.put] | simp only [List.setIfInBounds_toArray] | simp only [List.set_cons_zero] | simp only [List.set_cons_succ]))
    refine takeD (i := 28) (d := some 86) (v := ?_) rfl rfl (by kernel_rfl) (by kernel_rfl) (by kernel_rfl) (fun _ _ _ h => h) (Or.inl ⟨by rfl, ?_⟩) hHeld ?_
    rotate_left 1
    focus (intro w hSw; (try dsimp only at hSw); go_simp; (try with_reducible rfl))
    (repeat (first | simp only [Act.put] | simp only [List.setIfInBounds_toArray] | simp only [List.set_cons_zero] | simp only [List.set_cons_succ]))
    refine takeD (i := 29) (d := some 87) (v := ?_) rfl rfl (by kernel_rfl) (by kernel_rfl) (by kernel_rfl) (fun _ _ _ h => h) (Or.inl ⟨by rfl, ?_⟩) hHeld ?_
    rotate_left 1
    focus (intro w hSw; (try dsimp only at hSw); go_simp; (try with_reducible rfl))
    (repeat (first | simp only [Act.put] | simp only [List.setIfInBounds_toArray] | simp only [List.set_cons_zero] | simp only [List.set_cons_succ]))
    refine takeD (i := 30) (d := some 88) (v := ?_) rfl rfl (by kernel_rfl) (by kernel_rfl) (by kernel_rfl) (fun _ _ _ h => h) (Or.inl ⟨by rfl, ?_⟩) hHeld ?_
    rotate_left 1
    focus (intro w hSw; (try dsimp only at hSw); go_simp; (try with_reducible rfl))
    (repeat (first | simp only [Act.put] | simp only [List.setIfInBounds_toArray] | simp only [List.set_cons_zero] | simp only [List.set_cons_succ]))
    refine takeD (i := 31) (d := some 89) (v := ?_) rfl rfl (by kernel_rfl) (by kernel_rfl) (by kernel_rfl) (fun _ _ _ h => h) (Or.inl ⟨by rfl, ?_⟩) hHeld ?_
    rotate_left 1
    focus (intro w hSw; (try dsimp only at hSw); go_simp; (try with_reducible rfl))
    (repeat (first | simp only [Act.put] | simp only [List.setIfInBounds_toArray] | simp only [List.set_cons_zero] | simp only [List.set_cons_succ]))
    refine wpAnyH_ready (rs := [32]) (by kernel_rfl) (by simp) ?_
    refine AllReadyH.cons rfl (fun K hK => ?_) AllReadyH.nil
    go_simp
    go_at_call 24
    refine (C2 _ (by repeat (first | with_reducible exact Below.refl _ _ | with_reducible exact HB9.out | (with_reducible refine Below.drew ?_) | (with_reducible refine belowN ?_ _)))).out.mono ?_
    rintro e w9 ⟨rfl, hb9⟩
    have HB9 : Hid (Below w7.heap.size w7 w9) := Lib.hid ((show Below w7.heap.size w7 _ from (by repeat (first | with_reducible exact Below.refl _ _ | with_reducible exact HB9.out | (with_reducible refine Below.drew ?_) | (with_reducible refine belowN ?_ _)))).trans (hb9.mono (by first | exact Nat.le_refl _ | exact HB9.out.size | (simp; done) | (simp; exact HB9.out.size))))
    clear hb9
    refine hK.out _ _ (HC.out _ (by repeat (first | with_reducible exact Below.refl _ _ | with_reducible exact HB9.out | (with_reducible refine Below.drew ?_) | (with_reducible refine belowN ?_ _)))) (fun hHeld => ?_)
    clear hK K
    (repeat (first | simp only [Act.put] | simp only [List.setIfInBounds_toArray] | simp only [List.set_cons_zero] | simp only [List.set_cons_succ]))
    refine takeD (i := 33) (d := some 91) (v := ?_) rfl rfl (by kernel_rfl) (by kernel_rfl) (by kernel_rfl) (fun _ _ _ h => h) (Or.inl ⟨by rfl, ?_⟩) hHeld ?_
    rotate_left 1
    focus (intro w hSw; (try dsimp only at hSw); go_simp; (try with_reducible rfl))
    (repeat (first | simp only [Act.put] | simp only [List.setIfInBounds_toArray] | simp only [List.set_cons_zero] | simp only [List.set_cons_succ]))
    refine takeD (i := 34) (d := some 92) (v := ?_) rfl rfl (by kernel_rfl) (by kernel_rfl) (by kernel_rfl) (fun _ _ _ h => h) (Or.inl ⟨by rfl, ?_⟩) hHeld ?_
    rotate_left 1
    focus (intro w hSw; (try dsimp only at hSw); go_simp; (try with_reducible rfl))
    (repeat (first | simp only [Act.put] | simp only [List.setIfInBounds_toArray] | simp only [List.set_cons_zero] | simp only [List.set_cons_succ]))
    refine takeD (i := 35) (d := some 93) (v := ?_) rfl rfl (by kernel_rfl) (by kernel_rfl) (by kernel_rfl) (fun _ _ _ h => h) (Or.inl ⟨by rfl, ?_⟩) hHeld ?_
    rotate_left 1
    focus (intro w hSw; (try dsimp only at hSw); go_simp; (try with_reducible rfl))
    (repeat (first | simp only [Act.put] | simp only [List.setIfInBounds_toArray] | simp only [List.set_cons_zero] | simp only [List.set_cons_succ]))
    refine takeD (i := 36) (d := some 94) (v := ?_) rfl rfl (by kernel_rfl) (by kernel_rfl) (by kernel_rfl) (fun _ _ _ h => h) (Or.inl ⟨by rfl, ?_⟩) hHeld ?_
    rotate_left 1
    focus (intro w hSw; (try dsimp only at hSw); go_simp; (try with_reducible rfl))
    (repeat (first | simp only [Act.put] | simp only [List.setIfInBounds_toArray] | simp only [List.set_cons_zero] | simp only [List.set_cons_succ]))
    refine takeD (i := 37) (d := some 95) (v := ?_) rfl rfl (by kernel_rfl) (by kernel_rfl) (by kernel_rfl) (fun _ _ _ h => h) (Or.inl ⟨by rfl, ?_⟩) hHeld ?_
    rotate_left 1
    focus (intro w hSw; (try dsimp only at hSw); go_simp; (try with_reducible rfl))
    (repeat (first | simp only [Act.put] | simp only [List.setIfInBounds_toArray] | simp only [List.set_cons_zero] | simp only [List.set_cons_succ]))
    refine takeD (i := 38) (d := some 96) (v := ?_) rfl rfl (by kernel_rfl) (by kernel_rfl) (by kernel_rfl) (fun _ _ _ h => h) (Or.inl ⟨by rfl, ?_⟩) hHeld ?_
    rotate_left 1
    focus (intro w hSw; (try dsimp only at hSw); go_simp; (try with_reducible rfl))
    (repeat (first | simp only [Act.put] | simp only [List.setIfInBounds_toArray] | simp only [List.set_cons_zero] | simp only [List.set_cons_succ]))
    refine takeD (i := 39) (d := some 97) (v := ?_) rfl rfl (by kernel_rfl) (by kernel_rfl) (by kernel_rfl) (fun _ _ _ h => h) (Or.inl ⟨by rfl, ?_⟩) hHeld ?_
    rotate_left 1
    focus (intro w hSw; (try dsimp only at hSw); go_simp; (try with_reducible rfl))
    (repeat (first | simp only [Act.put] | simp only [List.setIfInBounds_toArray] | simp only [List.set_cons_zero] | simp only [List.set_cons_succ]))
    refine takeD (i := 40) (d := some 98) (v := ?_) rfl rfl (by kernel_rfl) (by kernel_rfl) (by kernel_rfl) (fun _ _ _ h => h) (Or.inl ⟨by rfl, ?_⟩) hHeld ?_
    rotate_left 1
    focus (intro w hSw; (try dsimp only at hSw); go_simp; (try with_reducible rfl))
    (repeat (first | simp only [Act.put] | simp only [List.setIfInBounds_toArray] | simp only [List.set_cons_zero] | simp only [List.set_cons_succ]))
    refine takeD (i := 41) (d := some 99) (v := ?_) rfl rfl (by kernel_rfl) (by kernel_rfl) (by kernel_rfl) (fun _ _ _ h => h) (Or.inl ⟨by rfl, ?_⟩) hHeld ?_
    rotate_left 1
    focus (intro w hSw; (try dsimp only at hSw); go_simp; (try with_reducible rfl))
    (repeat (first | simp only [Act.put] | simp only [List.setIfInBounds_toArray] | simp only [List.set_cons_zero] | simp only [List.set_cons_succ]))
    refine takeD (i := 42) (d := some 100) (v := ?_) rfl rfl (by kernel_rfl) (by kernel_rfl) (by kernel_rfl) (fun _ _ _ h => h) (Or.inl ⟨by rfl, ?_⟩) hHeld ?_
    rotate_left 1
    focus (intro w hSw; (try dsimp only at hSw); go_simp; (try with_reducible rfl))
    (repeat (first | simp only [Act.put] | simp only [List.setIfInBounds_toArray] | simp only [List.set_cons_zero] | simp only [List.set_cons_succ]))
    refine takeD (i := 43) (d := some 101) (v := ?_) rfl rfl (by kernel_rfl) (by kernel_rfl) (by kernel_rfl) (fun _ _ _ h => h) (Or.inl ⟨by rfl, ?_⟩) hHeld ?_
    rotate_left 1
    focus (intro w hSw; (try dsimp only at hSw); go_simp; (try with_reducible rfl))
    (repeat (first | simp only [Act.put] | simp only [List.setIfInBounds_toArray] | simp only [List.set_cons_zero] | simp only [List.set_cons_succ]))
    refine takeD (i := 44) (d := some 102) (v := ?_) rfl rfl (by kernel_rfl) (by kernel_rfl) (by kernel_rfl) (fun _ _ _ h => h) (Or.inl ⟨by rfl, ?_⟩) hHeld ?_
    rotate_left 1
    focus (intro w hSw; (try dsimp only at hSw); go_simp; (try with_reducible rfl))
    (repeat (first | simp only [Act.put] | simp only [List.setIfInBounds_toArray] | simp only [List.set_cons_zero] | simp only [List.set_cons_succ]))
    refine takeD (i := 45) (d := some 103) (v := ?_) rfl rfl (by kernel_rfl) (by kernel_rfl) (by kernel_rfl) (fun _ _ _ h => h) (Or.inl ⟨by rfl, ?_⟩) hHeld ?_
    rotate_left 1
    focus (intro w hSw; (try dsimp only at hSw); go_simp; (try with_reducible rfl))
    (repeat (first | simp only [Act.put] | simp only [List.setIfInBounds_toArray] | simp only [List.set_cons_zero] | simp only [List.set_cons_succ]))
    refine takeD (i := 46) (d := some 104) (v := ?_) rfl rfl (by kernel_rfl) (by kernel_rfl) (by kernel_rfl) (fun _ _ _ h => h) (Or.inl ⟨by rfl, ?_⟩) hHeld ?_
    rotate_left 1
    focus (intro w hSw; (try dsimp only at hSw); go_simp; (try with_reducible rfl))
    (repeat (first | simp only [Act.put] | simp only [List.setIfInBounds_toArray] | simp only [List.set_cons_zero] | simp only [List.set_cons_succ]))
    refine takeD (i := 48) (d := some 106) (v := ?_) rfl rfl (by kernel_rfl) (by kernel_rfl) (by kernel_rfl) (fun _ _ _ h => h) (Or.inl ⟨by rfl, ?_⟩) hHeld ?_
    rotate_left 1
    focus (intro w hSw; (try dsimp only at hSw); go_simp; (try with_reducible rfl))
    (repeat (first | simp only [Act.put] | simp only [List.setIfInBounds_toArray] | simp only [List.set_cons_zero] | simp only [List.set_cons_succ]))
    refine wpAnyH_ready (rs := [47]) (by kernel_rfl) (by simp) ?_
    refine AllReadyH.cons rfl (fun K hK => ?_) AllReadyH.nil
    go_simp
    go_at_call 19
    refine (C3 _ (by repeat (first | with_reducible exact Below.refl _ _ | with_reducible exact HB9.out | (with_reducible refine Below.drew ?_) | (with_reducible refine belowN ?_ _)))).out.mono ?_
    rintro e w9 ⟨rfl, hb9⟩
    have HB9 : Hid (Below w7.heap.size w7 w9) := Lib.hid ((show Below w7.heap.size w7 _ from (by repeat (first | with_reducible exact Below.refl _ _ | with_reducible exact HB9.out | (with_reducible refine Below.drew ?_) | (with_reducible refine belowN ?_ _)))).trans (hb9.mono (by first | exact Nat.le_refl _ | exact HB9.out.size | (simp; done) | (simp; exact HB9.out.size))))
    clear hb9
    refine hK.out _ _ (HC.out _ (by repeat (first | with_reducible exact Below.refl _ _ | with_reducible exact HB9.out | (with_reducible refine Below.drew ?_) | (with_reducible refine belowN ?_ _)))) (fun hHeld => ?_)
    clear hK K
    (repeat (first | simp only [Act.put] | simp only [List.setIfInBounds_toArray] | simp only [List.set_cons_zero] | simp only [List.set_cons_succ]))
    refine takeD (i := 49) (d := some 107) (v := ?_) rfl rfl (by kernel_rfl) (by kernel_rfl) (by kernel_rfl) (fun _ _ _ h => h) (Or.inl ⟨by rfl, ?_⟩) hHeld ?_
    rotate_left 1
    focus (intro w hSw; (try dsimp only at hSw); go_simp; (try with_reducible rfl))
    (repeat (first | simp only [Act.put] | simp only [List.setIfInBounds_toArray] | simp only [List.set_cons_zero] | simp only [List.set_cons_succ]))
    refine takeD (i := 50) (d := some 108) (v := ?_) rfl rfl (by kernel_rfl) (by kernel_rfl) (by kernel_rfl) (fun _ _ _ h => h) (Or.inl ⟨by rfl, ?_⟩) hHeld ?_
    rotate_left 1
    focus (intro w hSw; (try dsimp only at hSw); go_simp; (try with_reducible rfl))
    (repeat (first | simp only [Act.put] | simp only [List.setIfInBounds_toArray] | simp only [List.set_cons_zero] | simp only [List.set_cons_succ]))
    refine takeD (i := 51) (d := some 4) (v := ?_) rfl rfl (by kernel_rfl) (by kernel_rfl) (by kernel_rfl) (fun _ _ _ h => h) (Or.inl ⟨by rfl, ?_⟩) hHeld ?_
    rotate_left 1
    focus (intro w hSw; (try dsimp only at hSw); go_simp; (try with_reducible rfl))
    (repeat (first | simp only [Act.put] | simp only [List.setIfInBounds_toArray] | simp only [List.set_cons_zero] | simp only [List.set_cons_succ]))
    refine wpAnyH_done (by kernel_rfl) ?_ _
    go_wp2_with fail
    go_ret
    exact ⟨rfl, HB.out.trans (Below.mono (by repeat (first | with_reducible exact Below.refl _ _ | with_reducible exact HB9.out | (with_reducible refine Below.drew ?_) | (with_reducible refine belowN ?_ _))) HB.out.size)⟩
end Go.Proofs.Ytocjhepiooljpaa
