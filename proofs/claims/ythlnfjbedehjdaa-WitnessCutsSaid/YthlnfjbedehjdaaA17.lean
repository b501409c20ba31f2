/- Cut; the reference's Cut, Reached and Missed. -/
import Derived.Test.YthlnfjbedehjdaaA16
import Derived.BigQuiet
namespace Go.Proofs.Ythlnfjbedehjdaa
open Go.RowKit Go.Deep Go.Shelf

set_option maxRecDepth 20000 in
set_option maxHeartbeats 4000000 in
theorem cut_any (w : World) (M M' : Nat → Prop) (v u : Value) (q : RaceD) (certain : Bool) (c : CutD) (h : IsRace w M v q) (h' : IsCut w M' u c) (hl1 : c.free.length ≤ 140737488355328) (hl2 : c.clubs.length ≤ 140737488355328) :
    Calls Try.prog 16 #[v, .bool certain, u] w (RetE (cutR q certain c) w) := by
  obtain ⟨cA, cc, pA, pc, oA, oc, rfl, -⟩ := h.parts
  obtain ⟨fA, fc, uA, uc, gA, gc, rfl, -⟩ := h'.parts
  have HR := Lib.hid h
  have HU := Lib.hid h'
  clear h h'
  obtain ⟨z, hz⟩ : ∃ z, z = cutR q certain c := ⟨_, rfl⟩
  have HZ := Lib.hid hz
  rw [← hz]
  clear hz
  go_enter Try.func16, Try.ntmps16
  go_wp2_with fail
  refine nameW fun W1 hW1 => ?_
  have hb1 : Below w.heap.size w W1 := by rw [hW1.out]; exact ((Below.refl _ _).alloc (Nat.le_refl _) _).alloc (by simp) _
  have k0 : W1.heap[w.heap.size]? = some (.cells #[.int .i64 q.win, .int .i64 q.draw, .slice cA q.clubs.length cc, .slice pA q.points.length pc, .slice oA q.opn.length oc, .int .i64 q.club, .int .i64 q.place] 25 (0, 0)) := by rw [hW1.out, heap_alloc_if, if_neg (by simp)]; exact heap_alloc_new _ _
  have k1 : W1.heap[w.heap.size + 1]? = some (.cells #[.slice fA c.free.length fc, .slice uA c.clubs.length uc, .slice gA c.games.length gc] 31 (0, 0)) := by rw [hW1.out, heap_alloc_if, if_pos (by simp)]
  have K0 := Lib.hid k0
  have K1 := Lib.hid k1
  have HB1 := Lib.hid hb1
  obtain ⟨B1, hB1⟩ : ∃ B1, B1 = w.heap.size + 1 := ⟨_, rfl⟩
  rw [← hB1] at K1 ⊢
  clear hW1 hb1 k0 k1 hB1
  refine (check_any W1 M _ q (HR.out.below HB1.out)).mono ?_
  rintro e W2 ⟨rfl, hb⟩
  have HB := Lib.hid hb
  clear hb
  by_cases hv : validB q = true
  · have HV := Lib.hid (validB_iff.1 hv)
    have HVB := Lib.hid hv
    rw [hv, show (if true = true then (.agg #[.int .i64 q.win, .int .i64 q.draw, .slice cA q.clubs.length cc, .slice pA q.points.length pc, .slice oA q.opn.length oc, .int .i64 q.club, .int .i64 q.place] : Value) else zeroRV) = .agg #[.int .i64 q.win, .int .i64 q.draw, .slice cA q.clubs.length cc, .slice pA q.points.length pc, .slice oA q.opn.length oc, .int .i64 q.club, .int .i64 q.place] from rfl]
    clear hv
    have k1 := (HB.out.block _ (lt_heap K1.out)).trans K1.out
    have c0 := cell_of (j := 0) k1 rfl
    have c1 := cell_of (j := 1) k1 rfl
    have c2 := cell_of (j := 2) k1 rfl
    have hB1 := lt_heap k1
    clear k1
    go_wp2_with fail
    refine nameW fun W3 hW3 => ?_
    have hb3 : Below w.heap.size w W3 := by rw [hW3.out]; exact (HB1.out.trans (HB.out.mono HB1.out.size)).alloc (Nat.le_trans HB1.out.size HB.out.size) _
    refine (fits_any W3 M M' _ _ q certain c (HR.out.below hb3) (HU.out.below hb3) HV.out hl1 hl2).mono ?_
    rintro e W4 ⟨rfl, hb⟩
    have HB4 := Lib.hid (hb3.trans (hb.mono hb3.size))
    clear hb hb3 hW3 c0 c1 c2
    by_cases hf : fitsB q certain c = true
    · have HQ := Lib.hid (show z = 0 by rw [HZ.out]; unfold cutR; rw [if_pos HVB.out, if_pos hf])
      rw [hf]
      clear hf
      go_wp2_with fail
      go_ret
      exact ⟨ret_int HQ.out.symm, HB4.out⟩
    · have HQ := Lib.hid (show z = 290 by rw [HZ.out]; unfold cutR; rw [if_pos HVB.out, if_neg hf])
      rw [show fitsB q certain c = false by simpa using hf]
      clear hf
      go_wp2_with fail
      go_ret
      exact ⟨ret_int HQ.out.symm, HB4.out⟩
  · have HQ := Lib.hid (show z = 280 by rw [HZ.out]; unfold cutR; rw [if_neg hv])
    rw [show validB q = false by simpa using hv, show (if false = true then (.agg #[.int .i64 q.win, .int .i64 q.draw, .slice cA q.clubs.length cc, .slice pA q.points.length pc, .slice oA q.opn.length oc, .int .i64 q.club, .int .i64 q.place] : Value) else zeroRV) = .agg #[.int .i64 0, .int .i64 0, .slice none 0 0, .slice none 0 0, .slice none 0 0, .int .i64 0, .int .i64 0] from rfl]
    clear hv
    go_wp2_with fail
    go_ret
    exact ⟨ret_int HQ.out.symm, (HB1.out.trans (HB.out.mono HB1.out.size)).alloc (Nat.le_trans HB1.out.size HB.out.size) _⟩
set_option maxRecDepth 20000 in
set_option maxHeartbeats 4000000 in
theorem rcut_any (w : World) (M M' : Nat → Prop) (v u : Value) (q : RaceD) (certain : Bool) (c : CutD) (h : IsRace w M v q) (h' : IsCut w M' u c) (hl1 : c.free.length ≤ 140737488355328) (hl2 : c.clubs.length ≤ 140737488355328) :
    Calls Try.prog 17 #[v, .bool certain, u] w (RetE (cutR q certain c) w) := by
  obtain ⟨cA, cc, pA, pc, oA, oc, rfl, -⟩ := h.parts
  obtain ⟨fA, fc, uA, uc, gA, gc, rfl, -⟩ := h'.parts
  have HR := Lib.hid h
  have HU := Lib.hid h'
  clear h h'
  obtain ⟨z, hz⟩ : ∃ z, z = cutR q certain c := ⟨_, rfl⟩
  have HZ := Lib.hid hz
  rw [← hz]
  clear hz
  go_enter Try.func17, Try.ntmps17
  go_wp2_with fail
  refine nameW fun W1 hW1 => ?_
  have hb1 : Below w.heap.size w W1 := by rw [hW1.out]; exact ((Below.refl _ _).alloc (Nat.le_refl _) _).alloc (by simp) _
  have k0 : W1.heap[w.heap.size]? = some (.cells #[.int .i64 q.win, .int .i64 q.draw, .slice cA q.clubs.length cc, .slice pA q.points.length pc, .slice oA q.opn.length oc, .int .i64 q.club, .int .i64 q.place] 25 (0, 0)) := by rw [hW1.out, heap_alloc_if, if_neg (by simp)]; exact heap_alloc_new _ _
  have k1 : W1.heap[w.heap.size + 1]? = some (.cells #[.slice fA c.free.length fc, .slice uA c.clubs.length uc, .slice gA c.games.length gc] 31 (0, 0)) := by rw [hW1.out, heap_alloc_if, if_pos (by simp)]
  have K0 := Lib.hid k0
  have K1 := Lib.hid k1
  have HB1 := Lib.hid hb1
  obtain ⟨B1, hB1⟩ : ∃ B1, B1 = w.heap.size + 1 := ⟨_, rfl⟩
  rw [← hB1] at K1 ⊢
  clear hW1 hb1 k0 k1 hB1
  refine (rvalid_any W1 M _ q (HR.out.below HB1.out)).mono ?_
  rintro e W2 ⟨rfl, hb⟩
  have HB := Lib.hid hb
  clear hb
  by_cases hv : validB q = true
  · have HV := Lib.hid (validB_iff.1 hv)
    have HVB := Lib.hid hv
    rw [hv]
    clear hv
    have k0 := (HB.out.block _ (lt_heap K0.out)).trans K0.out
    have k1 := (HB.out.block _ (lt_heap K1.out)).trans K1.out
    have r0 := cell_of (j := 0) k0 rfl
    have r1 := cell_of (j := 1) k0 rfl
    have r2 := cell_of (j := 2) k0 rfl
    have r3 := cell_of (j := 3) k0 rfl
    have r4 := cell_of (j := 4) k0 rfl
    have r5 := cell_of (j := 5) k0 rfl
    have r6 := cell_of (j := 6) k0 rfl
    have c0 := cell_of (j := 0) k1 rfl
    have c1 := cell_of (j := 1) k1 rfl
    have c2 := cell_of (j := 2) k1 rfl
    clear k0 k1
    go_wp2_with fail
    have hb2 := HB1.out.trans (HB.out.mono HB1.out.size)
    refine (rfits_any W2 M M' _ _ q certain c (HR.out.below hb2) (HU.out.below hb2) HV.out hl1 hl2).mono ?_
    rintro e W4 ⟨rfl, hb⟩
    have HB4 := Lib.hid (hb2.trans (hb.mono hb2.size))
    clear hb hb2 c0 c1 c2 r0 r1 r2 r3 r4 r5 r6
    by_cases hf : fitsB q certain c = true
    · have HQ := Lib.hid (show z = 0 by rw [HZ.out]; unfold cutR; rw [if_pos HVB.out, if_pos hf])
      rw [hf]
      clear hf
      go_wp2_with fail
      go_ret
      exact ⟨ret_int HQ.out.symm, HB4.out⟩
    · have HQ := Lib.hid (show z = 290 by rw [HZ.out]; unfold cutR; rw [if_pos HVB.out, if_neg hf])
      rw [show fitsB q certain c = false by simpa using hf]
      clear hf
      go_wp2_with fail
      go_ret
      exact ⟨ret_int HQ.out.symm, HB4.out⟩
  · have HQ := Lib.hid (show z = 280 by rw [HZ.out]; unfold cutR; rw [if_neg hv])
    rw [show validB q = false by simpa using hv]
    clear hv
    go_wp2_with fail
    go_ret
    exact ⟨ret_int HQ.out.symm, HB1.out.trans (HB.out.mono HB1.out.size)⟩
set_option maxRecDepth 20000 in
set_option maxHeartbeats 4000000 in
theorem rreached_any (w : World) (M M' : Nat → Prop) (v u : Value) (q : RaceD) (outs : List Int) (h : IsRace w M v q) (h' : IsInts w M' u outs) (hlen : outs.length ≤ 140737488355328) : Calls Try.prog 12 #[v, u] w (RetE (reachedR q outs) w) := by
  obtain ⟨cA, cc, pA, pc, oA, oc, rfl, -⟩ := h.parts
  obtain ⟨uA, uc, rfl, -⟩ := id h'
  have HR := Lib.hid h
  have HU := Lib.hid h'
  clear h h'
  obtain ⟨z, hz⟩ : ∃ z, z = reachedR q outs := ⟨_, rfl⟩
  have HZ := Lib.hid hz
  rw [← hz]
  clear hz
  go_enter Try.func12, Try.ntmps12
  go_wp2_with fail
  refine nameW fun W1 hW1 => ?_
  have hb1 : Below w.heap.size w W1 := by rw [hW1.out]; exact (Below.refl _ _).alloc (Nat.le_refl _) _
  have k0 : W1.heap[w.heap.size]? = some (.cells #[.int .i64 q.win, .int .i64 q.draw, .slice cA q.clubs.length cc, .slice pA q.points.length pc, .slice oA q.opn.length oc, .int .i64 q.club, .int .i64 q.place] 25 (0, 0)) := by rw [hW1.out]; exact heap_alloc_new _ _
  have K0 := Lib.hid k0
  have HB1 := Lib.hid hb1
  clear hW1 hb1 k0
  refine (rvalid_any W1 M _ q (HR.out.below HB1.out)).mono ?_
  rintro e W2 ⟨rfl, hb⟩
  have HB := Lib.hid hb
  clear hb
  by_cases hv : validB q = true
  case neg =>
    have HQ := Lib.hid (show z = 280 by rw [HZ.out]; unfold reachedR; rw [if_neg hv])
    rw [show validB q = false by simpa using hv]
    clear hv
    go_wp2_with fail
    go_ret
    exact ⟨ret_int HQ.out.symm, HB1.out.trans (HB.out.mono HB1.out.size)⟩
  have HV := Lib.hid (validB_iff.1 hv)
  have HVB := Lib.hid hv
  rw [hv]
  clear hv
  have k0 := (HB.out.block _ (lt_heap K0.out)).trans K0.out
  have r0 := cell_of (j := 0) k0 rfl
  have r1 := cell_of (j := 1) k0 rfl
  have r2 := cell_of (j := 2) k0 rfl
  have r3 := cell_of (j := 3) k0 rfl
  have r4 := cell_of (j := 4) k0 rfl
  have r5 := cell_of (j := 5) k0 rfl
  have r6 := cell_of (j := 6) k0 rfl
  clear k0
  go_wp2_with fail
  have hb2 := HB1.out.trans (HB.out.mono HB1.out.size)
  refine (rcompl_any W2 M M' _ _ q outs (HR.out.below hb2) (IsSl.below HU.out hb2) hlen).mono ?_
  rintro e W3 ⟨rfl, hb⟩
  have HB3 := Lib.hid (hb2.trans (hb.mono hb2.size))
  have k0 := (hb.block _ (Nat.lt_of_lt_of_le (lt_heap K0.out) HB.out.size)).trans ((HB.out.block _ (lt_heap K0.out)).trans K0.out)
  clear hb hb2 r0 r1 r2 r3 r4 r5 r6 HB
  by_cases hco : complB q outs = true
  case neg =>
    have HQ := Lib.hid (show z = 1 by rw [HZ.out]; unfold reachedR; rw [if_pos HVB.out, if_neg hco])
    rw [show complB q outs = false by simpa using hco]
    clear hco k0
    go_wp2_with fail
    go_ret
    exact ⟨ret_int HQ.out.symm, HB3.out⟩
  have HCO := Lib.hid hco
  rw [hco]
  clear hco
  have HC := Lib.hid (show ∀ W', Below W3.heap.size W3 W' → (W'.cell? ⟨w.heap.size, 0, none⟩ = some (.int .i64 q.win) ∧ W'.cell? ⟨w.heap.size, 1, none⟩ = some (.int .i64 q.draw) ∧ W'.cell? ⟨w.heap.size, 2, none⟩ = some (.slice cA q.clubs.length cc) ∧ W'.cell? ⟨w.heap.size, 3, none⟩ = some (.slice pA q.points.length pc) ∧ W'.cell? ⟨w.heap.size, 4, none⟩ = some (.slice oA q.opn.length oc) ∧ W'.cell? ⟨w.heap.size, 5, none⟩ = some (.int .i64 q.club) ∧ W'.cell? ⟨w.heap.size, 6, none⟩ = some (.int .i64 q.place)) from fun W' h => by
    have e0 := (h.block _ (lt_heap k0)).trans k0
    exact ⟨cell_of e0 rfl, cell_of e0 rfl, cell_of e0 rfl, cell_of e0 rfl, cell_of e0 rfl, cell_of e0 rfl, cell_of e0 rfl⟩)
  clear k0
  have CF := Lib.hid (show ∀ W', Below W3.heap.size W3 W' → _ from fun W' h => rfin_any W' M M' _ _ q outs (HR.out.below (HB3.out.trans (h.mono HB3.out.size))) (IsSl.below HU.out (HB3.out.trans (h.mono HB3.out.size))) HV.out HCO.out)
  have HFL := Lib.hid (show (finR q outs).length = q.clubs.length by unfold finR; rw [finTo_length, HV.out.size.pts])
  have hn24 := HV.out.size.n24
  have hp1 := HV.out.size.p1
  have hpn := HV.out.size.pn
  go_upto_region 5 with fail
  go_cut [5, 6] (fun s5 s6 W => s5 = .int .i64 ((moreR q (finR q outs) : Nat) : Int) ∧ s6 = .int .i64 ((manyR q (finR q outs) : Nat) : Int) ∧ Hid (Below W3.heap.size W3 W))
  case first =>
    refine wp_region_held_drew (S := fun W9 => Below W3.heap.size W3 W9) (by kernel_rfl) (Below.drew (Below.refl _ _)) (fun hHeld => ?_)
    change wpAnyH _ _ _ _ _ 10 #[false, false, false, false, false, false, false, false, false, false] _ W3.drew
    refine takeD (i := 0) (d := some 15) (v := ?_) rfl rfl (by kernel_rfl) (by kernel_rfl) (by kernel_rfl) (fun _ _ _ h => h) (Or.inl ⟨by rfl, ?_⟩) hHeld ?_
    rotate_left 1
    focus (intro w hSw; (try dsimp only at hSw); obtain ⟨e0, e1, e2, e3, e4, e5, e6⟩ := HC.out w hSw; go_simp; (try with_reducible rfl))
    (repeat (first | simp only [Act.put] | simp only [List.setIfInBounds_toArray] | simp only [List.set_cons_zero] | simp only [List.set_cons_succ]))
    refine takeD (i := 1) (d := some 16) (v := ?_) rfl rfl (by kernel_rfl) (by kernel_rfl) (by kernel_rfl) (fun _ _ _ h => h) (Or.inl ⟨by rfl, ?_⟩) hHeld ?_
    rotate_left 1
    focus (intro w hSw; (try dsimp only at hSw); obtain ⟨e0, e1, e2, e3, e4, e5, e6⟩ := HC.out w hSw; go_simp; (try with_reducible rfl))
    (repeat (first | simp only [Act.put] | simp only [List.setIfInBounds_toArray] | simp only [List.set_cons_zero] | simp only [List.set_cons_succ]))
    refine takeD (i := 2) (d := some 17) (v := ?_) rfl rfl (by kernel_rfl) (by kernel_rfl) (by kernel_rfl) (fun _ _ _ h => h) (Or.inl ⟨by rfl, ?_⟩) hHeld ?_
    rotate_left 1
    focus (intro w hSw; (try dsimp only at hSw); go_simp; (try with_reducible rfl))
    (repeat (first | simp only [Act.put] | simp only [List.setIfInBounds_toArray] | simp only [List.set_cons_zero] | simp only [List.set_cons_succ]))
    refine wpAnyH_ready (rs := [3]) (by kernel_rfl) (by simp) ?_
    refine AllReadyH.cons rfl (fun K hK => ?_) AllReadyH.nil
    go_simp
    go_at_call 29
    refine (CF.out _ (by repeat (first | with_reducible exact Below.refl _ _ | with_reducible exact HB9.out | (with_reducible refine Below.drew ?_)))).mono ?_
    rintro e w9 ⟨A9, d9, rfl, hown9, hb9⟩
    have HO9 := Lib.hid (IsInts.ofOwn hown9)
    have HB9 : Hid (Below W3.heap.size W3 w9) := Lib.hid ((show Below W3.heap.size W3 _ from (by repeat (first | with_reducible exact Below.refl _ _ | with_reducible exact HB9.out | (with_reducible refine Below.drew ?_)))).trans (hb9.mono (show W3.heap.size ≤ _ from (show Below W3.heap.size W3 _ from (by repeat (first | with_reducible exact Below.refl _ _ | with_reducible exact HB9.out | (with_reducible refine Below.drew ?_)))).size)))
    clear hb9 hown9
    refine hK.out _ _ ((by repeat (first | with_reducible exact Below.refl _ _ | with_reducible exact HB9.out | (with_reducible refine Below.drew ?_)))) (fun hHeld => ?_)
    clear hK K
    (repeat (first | simp only [Act.put] | simp only [List.setIfInBounds_toArray] | simp only [List.set_cons_zero] | simp only [List.set_cons_succ]))
    refine wpAnyH_ready (rs := [4]) (by kernel_rfl) (by simp) ?_
    refine AllReadyH.cons rfl (fun K hK => ?_) AllReadyH.nil
    go_simp
    go_at_call 22
    refine (rabove_any _ M _ _ _ q (finR q outs) (HR.out.below (HB3.out.trans ((show Below W3.heap.size W3 _ from (by repeat (first | with_reducible exact Below.refl _ _ | with_reducible exact HB9.out | (with_reducible refine Below.drew ?_)))).mono HB3.out.size))) HO9.out (by rw [HFL.out]; omega) (by rw [HFL.out]; exact ⟨HV.out.size.c0, HV.out.size.cn⟩)).mono ?_
    rintro e w10 ⟨rfl, hb9⟩
    have HBn : Hid (Below W3.heap.size W3 w10) := Lib.hid (HB9.out.trans (hb9.mono HB9.out.size))
    clear hb9 HB9 HO9
    have HB9 := HBn
    clear HBn
    refine hK.out _ _ ((by repeat (first | with_reducible exact Below.refl _ _ | with_reducible exact HB9.out | (with_reducible refine Below.drew ?_)))) (fun hHeld => ?_)
    clear hK K
    (repeat (first | simp only [Act.put] | simp only [List.setIfInBounds_toArray] | simp only [List.set_cons_zero] | simp only [List.set_cons_succ]))
    refine takeD (i := 5) (d := some 14) (v := ?_) rfl rfl (by kernel_rfl) (by kernel_rfl) (by kernel_rfl) (fun _ _ _ h => h) (Or.inl ⟨by rfl, ?_⟩) hHeld ?_
    rotate_left 1
    focus (intro w hSw; (try dsimp only at hSw); go_simp; (try with_reducible rfl))
    (repeat (first | simp only [Act.put] | simp only [List.setIfInBounds_toArray] | simp only [List.set_cons_zero] | simp only [List.set_cons_succ]))
    refine takeD (i := 6) (d := some 20) (v := ?_) rfl rfl (by kernel_rfl) (by kernel_rfl) (by kernel_rfl) (fun _ _ _ h => h) (Or.inl ⟨by rfl, ?_⟩) hHeld ?_
    rotate_left 1
    focus (intro w hSw; (try dsimp only at hSw); go_simp; (try with_reducible rfl))
    (repeat (first | simp only [Act.put] | simp only [List.setIfInBounds_toArray] | simp only [List.set_cons_zero] | simp only [List.set_cons_succ]))
    refine takeD (i := 7) (d := some 21) (v := ?_) rfl rfl (by kernel_rfl) (by kernel_rfl) (by kernel_rfl) (fun _ _ _ h => h) (Or.inl ⟨by rfl, ?_⟩) hHeld ?_
    rotate_left 1
    focus (intro w hSw; (try dsimp only at hSw); go_simp; (try with_reducible rfl))
    (repeat (first | simp only [Act.put] | simp only [List.setIfInBounds_toArray] | simp only [List.set_cons_zero] | simp only [List.set_cons_succ]))
    refine takeD (i := 8) (d := some 5) (v := ?_) rfl rfl (by kernel_rfl) (by kernel_rfl) (by kernel_rfl) (fun _ _ _ h => h) (Or.inl ⟨by rfl, ?_⟩) hHeld ?_
    rotate_left 1
    focus (intro w hSw; (try dsimp only at hSw); go_simp; (try with_reducible rfl))
    (repeat (first | simp only [Act.put] | simp only [List.setIfInBounds_toArray] | simp only [List.set_cons_zero] | simp only [List.set_cons_succ]))
    refine takeD (i := 9) (d := some 6) (v := ?_) rfl rfl (by kernel_rfl) (by kernel_rfl) (by kernel_rfl) (fun _ _ _ h => h) (Or.inl ⟨by rfl, ?_⟩) hHeld ?_
    rotate_left 1
    focus (intro w hSw; (try dsimp only at hSw); go_simp; (try with_reducible rfl))
    (repeat (first | simp only [Act.put] | simp only [List.setIfInBounds_toArray] | simp only [List.set_cons_zero] | simp only [List.set_cons_succ]))
    refine wpAnyH_done (by kernel_rfl) ?_ _
    go_wp2_with fail
    go_meet
    case rel => exact ⟨rfl, rfl, Lib.hid (by repeat (first | with_reducible exact HB9.out | (with_reducible refine Below.drew ?_)))⟩
  case rest =>
    obtain ⟨rfl, rfl, HB9⟩ := hcut
    obtain ⟨e0, e1, e2, e3, e4, e5, e6⟩ := HC.out _ HB9.out
    have HZZ := Lib.hid (show z = if q.place ≤ moreR q (finR q outs) then 290 else 0 by rw [HZ.out]; unfold reachedR; rw [if_pos HVB.out, if_pos HCO.out])
    have HBF := Lib.hid (HB3.out.trans (HB9.out.mono HB3.out.size))
    obtain ⟨more, hmo⟩ : ∃ x, x = moreR q (finR q outs) := ⟨_, rfl⟩
    obtain ⟨many, hma⟩ : ∃ x, x = manyR q (finR q outs) := ⟨_, rfl⟩
    rw [← hmo, ← hma]
    rw [← hmo] at HZZ
    clear hmo hma CF
    by_cases ht : q.place ≤ (more : Int)
    · have d1 : decide (q.place - 1 < (more : Int)) = true := by rw [decide_eq_true_eq]; omega
      have HQ := Lib.hid (show z = 290 by rw [HZZ.out, if_pos ht])
      clear ht
      go_wp2_with fail
      go_ret
      exact ⟨ret_int HQ.out.symm, HBF.out⟩
    · have d1 : decide (q.place - 1 < (more : Int)) = false := by rw [decide_eq_false_iff_not]; omega
      have HQ := Lib.hid (show z = 0 by rw [HZZ.out, if_neg ht])
      clear ht
      go_wp2_with fail
      go_ret
      exact ⟨ret_int HQ.out.symm, HBF.out⟩
set_option maxRecDepth 20000 in
set_option maxHeartbeats 4000000 in
theorem rmissed_any (w : World) (M M' : Nat → Prop) (v u : Value) (q : RaceD) (outs : List Int) (h : IsRace w M v q) (h' : IsInts w M' u outs) (hlen : outs.length ≤ 140737488355328) : Calls Try.prog 14 #[v, u] w (RetE (missedR q outs) w) := by
  obtain ⟨cA, cc, pA, pc, oA, oc, rfl, -⟩ := h.parts
  obtain ⟨uA, uc, rfl, -⟩ := id h'
  have HR := Lib.hid h
  have HU := Lib.hid h'
  clear h h'
  obtain ⟨z, hz⟩ : ∃ z, z = missedR q outs := ⟨_, rfl⟩
  have HZ := Lib.hid hz
  rw [← hz]
  clear hz
  go_enter Try.func14, Try.ntmps14
  go_wp2_with fail
  refine nameW fun W1 hW1 => ?_
  have hb1 : Below w.heap.size w W1 := by rw [hW1.out]; exact (Below.refl _ _).alloc (Nat.le_refl _) _
  have k0 : W1.heap[w.heap.size]? = some (.cells #[.int .i64 q.win, .int .i64 q.draw, .slice cA q.clubs.length cc, .slice pA q.points.length pc, .slice oA q.opn.length oc, .int .i64 q.club, .int .i64 q.place] 25 (0, 0)) := by rw [hW1.out]; exact heap_alloc_new _ _
  have K0 := Lib.hid k0
  have HB1 := Lib.hid hb1
  clear hW1 hb1 k0
  refine (rvalid_any W1 M _ q (HR.out.below HB1.out)).mono ?_
  rintro e W2 ⟨rfl, hb⟩
  have HB := Lib.hid hb
  clear hb
  by_cases hv : validB q = true
  case neg =>
    have HQ := Lib.hid (show z = 280 by rw [HZ.out]; unfold missedR; rw [if_neg hv])
    rw [show validB q = false by simpa using hv]
    clear hv
    go_wp2_with fail
    go_ret
    exact ⟨ret_int HQ.out.symm, HB1.out.trans (HB.out.mono HB1.out.size)⟩
  have HV := Lib.hid (validB_iff.1 hv)
  have HVB := Lib.hid hv
  rw [hv]
  clear hv
  have k0 := (HB.out.block _ (lt_heap K0.out)).trans K0.out
  have r0 := cell_of (j := 0) k0 rfl
  have r1 := cell_of (j := 1) k0 rfl
  have r2 := cell_of (j := 2) k0 rfl
  have r3 := cell_of (j := 3) k0 rfl
  have r4 := cell_of (j := 4) k0 rfl
  have r5 := cell_of (j := 5) k0 rfl
  have r6 := cell_of (j := 6) k0 rfl
  clear k0
  go_wp2_with fail
  have hb2 := HB1.out.trans (HB.out.mono HB1.out.size)
  refine (rcompl_any W2 M M' _ _ q outs (HR.out.below hb2) (IsSl.below HU.out hb2) hlen).mono ?_
  rintro e W3 ⟨rfl, hb⟩
  have HB3 := Lib.hid (hb2.trans (hb.mono hb2.size))
  have k0 := (hb.block _ (Nat.lt_of_lt_of_le (lt_heap K0.out) HB.out.size)).trans ((HB.out.block _ (lt_heap K0.out)).trans K0.out)
  clear hb hb2 r0 r1 r2 r3 r4 r5 r6 HB
  by_cases hco : complB q outs = true
  case neg =>
    have HQ := Lib.hid (show z = 1 by rw [HZ.out]; unfold missedR; rw [if_pos HVB.out, if_neg hco])
    rw [show complB q outs = false by simpa using hco]
    clear hco k0
    go_wp2_with fail
    go_ret
    exact ⟨ret_int HQ.out.symm, HB3.out⟩
  have HCO := Lib.hid hco
  rw [hco]
  clear hco
  have HC := Lib.hid (show ∀ W', Below W3.heap.size W3 W' → (W'.cell? ⟨w.heap.size, 0, none⟩ = some (.int .i64 q.win) ∧ W'.cell? ⟨w.heap.size, 1, none⟩ = some (.int .i64 q.draw) ∧ W'.cell? ⟨w.heap.size, 2, none⟩ = some (.slice cA q.clubs.length cc) ∧ W'.cell? ⟨w.heap.size, 3, none⟩ = some (.slice pA q.points.length pc) ∧ W'.cell? ⟨w.heap.size, 4, none⟩ = some (.slice oA q.opn.length oc) ∧ W'.cell? ⟨w.heap.size, 5, none⟩ = some (.int .i64 q.club) ∧ W'.cell? ⟨w.heap.size, 6, none⟩ = some (.int .i64 q.place)) from fun W' h => by
    have e0 := (h.block _ (lt_heap k0)).trans k0
    exact ⟨cell_of e0 rfl, cell_of e0 rfl, cell_of e0 rfl, cell_of e0 rfl, cell_of e0 rfl, cell_of e0 rfl, cell_of e0 rfl⟩)
  clear k0
  have CF := Lib.hid (show ∀ W', Below W3.heap.size W3 W' → _ from fun W' h => rfin_any W' M M' _ _ q outs (HR.out.below (HB3.out.trans (h.mono HB3.out.size))) (IsSl.below HU.out (HB3.out.trans (h.mono HB3.out.size))) HV.out HCO.out)
  have HFL := Lib.hid (show (finR q outs).length = q.clubs.length by unfold finR; rw [finTo_length, HV.out.size.pts])
  have hn24 := HV.out.size.n24
  have hp1 := HV.out.size.p1
  have hpn := HV.out.size.pn
  go_upto_region 5 with fail
  go_cut [5, 6] (fun s5 s6 W => s5 = .int .i64 ((moreR q (finR q outs) : Nat) : Int) ∧ s6 = .int .i64 ((manyR q (finR q outs) : Nat) : Int) ∧ Hid (Below W3.heap.size W3 W))
  case first =>
    refine wp_region_held_drew (S := fun W9 => Below W3.heap.size W3 W9) (by kernel_rfl) (Below.drew (Below.refl _ _)) (fun hHeld => ?_)
    change wpAnyH _ _ _ _ _ 10 #[false, false, false, false, false, false, false, false, false, false] _ W3.drew
    refine takeD (i := 0) (d := some 15) (v := ?_) rfl rfl (by kernel_rfl) (by kernel_rfl) (by kernel_rfl) (fun _ _ _ h => h) (Or.inl ⟨by rfl, ?_⟩) hHeld ?_
    rotate_left 1
    focus (intro w hSw; (try dsimp only at hSw); obtain ⟨e0, e1, e2, e3, e4, e5, e6⟩ := HC.out w hSw; go_simp; (try with_reducible rfl))
    (repeat (first | simp only [Act.put] | simp only [List.setIfInBounds_toArray] | simp only [List.set_cons_zero] | simp only [List.set_cons_succ]))
    refine takeD (i := 1) (d := some 16) (v := ?_) rfl rfl (by kernel_rfl) (by kernel_rfl) (by kernel_rfl) (fun _ _ _ h => h) (Or.inl ⟨by rfl, ?_⟩) hHeld ?_
    rotate_left 1
    focus (intro w hSw; (try dsimp only at hSw); obtain ⟨e0, e1, e2, e3, e4, e5, e6⟩ := HC.out w hSw; go_simp; (try with_reducible rfl))
    (repeat (first | simp only [Act.put] | simp only [List.setIfInBounds_toArray] | simp only [List.set_cons_zero] | simp only [List.set_cons_succ]))
    refine takeD (i := 2) (d := some 17) (v := ?_) rfl rfl (by kernel_rfl) (by kernel_rfl) (by kernel_rfl) (fun _ _ _ h => h) (Or.inl ⟨by rfl, ?_⟩) hHeld ?_
    rotate_left 1
    focus (intro w hSw; (try dsimp only at hSw); go_simp; (try with_reducible rfl))
    (repeat (first | simp only [Act.put] | simp only [List.setIfInBounds_toArray] | simp only [List.set_cons_zero] | simp only [List.set_cons_succ]))
    refine wpAnyH_ready (rs := [3]) (by kernel_rfl) (by simp) ?_
    refine AllReadyH.cons rfl (fun K hK => ?_) AllReadyH.nil
    go_simp
    go_at_call 29
    refine (CF.out _ (by repeat (first | with_reducible exact Below.refl _ _ | with_reducible exact HB9.out | (with_reducible refine Below.drew ?_)))).mono ?_
    rintro e w9 ⟨A9, d9, rfl, hown9, hb9⟩
    have HO9 := Lib.hid (IsInts.ofOwn hown9)
    have HB9 : Hid (Below W3.heap.size W3 w9) := Lib.hid ((show Below W3.heap.size W3 _ from (by repeat (first | with_reducible exact Below.refl _ _ | with_reducible exact HB9.out | (with_reducible refine Below.drew ?_)))).trans (hb9.mono (show W3.heap.size ≤ _ from (show Below W3.heap.size W3 _ from (by repeat (first | with_reducible exact Below.refl _ _ | with_reducible exact HB9.out | (with_reducible refine Below.drew ?_)))).size)))
    clear hb9 hown9
    refine hK.out _ _ ((by repeat (first | with_reducible exact Below.refl _ _ | with_reducible exact HB9.out | (with_reducible refine Below.drew ?_)))) (fun hHeld => ?_)
    clear hK K
    (repeat (first | simp only [Act.put] | simp only [List.setIfInBounds_toArray] | simp only [List.set_cons_zero] | simp only [List.set_cons_succ]))
    refine wpAnyH_ready (rs := [4]) (by kernel_rfl) (by simp) ?_
    refine AllReadyH.cons rfl (fun K hK => ?_) AllReadyH.nil
    go_simp
    go_at_call 22
    refine (rabove_any _ M _ _ _ q (finR q outs) (HR.out.below (HB3.out.trans ((show Below W3.heap.size W3 _ from (by repeat (first | with_reducible exact Below.refl _ _ | with_reducible exact HB9.out | (with_reducible refine Below.drew ?_)))).mono HB3.out.size))) HO9.out (by rw [HFL.out]; omega) (by rw [HFL.out]; exact ⟨HV.out.size.c0, HV.out.size.cn⟩)).mono ?_
    rintro e w10 ⟨rfl, hb9⟩
    have HBn : Hid (Below W3.heap.size W3 w10) := Lib.hid (HB9.out.trans (hb9.mono HB9.out.size))
    clear hb9 HB9 HO9
    have HB9 := HBn
    clear HBn
    refine hK.out _ _ ((by repeat (first | with_reducible exact Below.refl _ _ | with_reducible exact HB9.out | (with_reducible refine Below.drew ?_)))) (fun hHeld => ?_)
    clear hK K
    (repeat (first | simp only [Act.put] | simp only [List.setIfInBounds_toArray] | simp only [List.set_cons_zero] | simp only [List.set_cons_succ]))
    refine takeD (i := 5) (d := some 14) (v := ?_) rfl rfl (by kernel_rfl) (by kernel_rfl) (by kernel_rfl) (fun _ _ _ h => h) (Or.inl ⟨by rfl, ?_⟩) hHeld ?_
    rotate_left 1
    focus (intro w hSw; (try dsimp only at hSw); go_simp; (try with_reducible rfl))
    (repeat (first | simp only [Act.put] | simp only [List.setIfInBounds_toArray] | simp only [List.set_cons_zero] | simp only [List.set_cons_succ]))
    refine takeD (i := 6) (d := some 20) (v := ?_) rfl rfl (by kernel_rfl) (by kernel_rfl) (by kernel_rfl) (fun _ _ _ h => h) (Or.inl ⟨by rfl, ?_⟩) hHeld ?_
    rotate_left 1
    focus (intro w hSw; (try dsimp only at hSw); go_simp; (try with_reducible rfl))
    (repeat (first | simp only [Act.put] | simp only [List.setIfInBounds_toArray] | simp only [List.set_cons_zero] | simp only [List.set_cons_succ]))
    refine takeD (i := 7) (d := some 21) (v := ?_) rfl rfl (by kernel_rfl) (by kernel_rfl) (by kernel_rfl) (fun _ _ _ h => h) (Or.inl ⟨by rfl, ?_⟩) hHeld ?_
    rotate_left 1
    focus (intro w hSw; (try dsimp only at hSw); go_simp; (try with_reducible rfl))
    (repeat (first | simp only [Act.put] | simp only [List.setIfInBounds_toArray] | simp only [List.set_cons_zero] | simp only [List.set_cons_succ]))
    refine takeD (i := 8) (d := some 5) (v := ?_) rfl rfl (by kernel_rfl) (by kernel_rfl) (by kernel_rfl) (fun _ _ _ h => h) (Or.inl ⟨by rfl, ?_⟩) hHeld ?_
    rotate_left 1
    focus (intro w hSw; (try dsimp only at hSw); go_simp; (try with_reducible rfl))
    (repeat (first | simp only [Act.put] | simp only [List.setIfInBounds_toArray] | simp only [List.set_cons_zero] | simp only [List.set_cons_succ]))
    refine takeD (i := 9) (d := some 6) (v := ?_) rfl rfl (by kernel_rfl) (by kernel_rfl) (by kernel_rfl) (fun _ _ _ h => h) (Or.inl ⟨by rfl, ?_⟩) hHeld ?_
    rotate_left 1
    focus (intro w hSw; (try dsimp only at hSw); go_simp; (try with_reducible rfl))
    (repeat (first | simp only [Act.put] | simp only [List.setIfInBounds_toArray] | simp only [List.set_cons_zero] | simp only [List.set_cons_succ]))
    refine wpAnyH_done (by kernel_rfl) ?_ _
    go_wp2_with fail
    go_meet
    case rel => exact ⟨rfl, rfl, Lib.hid (by repeat (first | with_reducible exact HB9.out | (with_reducible refine Below.drew ?_)))⟩
  case rest =>
    obtain ⟨rfl, rfl, HB9⟩ := hcut
    obtain ⟨e0, e1, e2, e3, e4, e5, e6⟩ := HC.out _ HB9.out
    have HZZ := Lib.hid (show z = if manyR q (finR q outs) < q.place then 290 else 0 by rw [HZ.out]; unfold missedR; rw [if_pos HVB.out, if_pos HCO.out])
    have HBF := Lib.hid (HB3.out.trans (HB9.out.mono HB3.out.size))
    obtain ⟨more, hmo⟩ : ∃ x, x = moreR q (finR q outs) := ⟨_, rfl⟩
    obtain ⟨many, hma⟩ : ∃ x, x = manyR q (finR q outs) := ⟨_, rfl⟩
    rw [← hmo, ← hma]
    rw [← hma] at HZZ
    clear hmo hma CF
    by_cases ht : (many : Int) < q.place
    · have d1 : decide ((many : Int) < q.place) = true := by rw [decide_eq_true_eq]; omega
      have HQ := Lib.hid (show z = 290 by rw [HZZ.out, if_pos ht])
      clear ht
      go_wp2_with fail
      go_ret
      exact ⟨ret_int HQ.out.symm, HBF.out⟩
    · have d1 : decide ((many : Int) < q.place) = false := by rw [decide_eq_false_iff_not]; omega
      have HQ := Lib.hid (show z = 0 by rw [HZZ.out, if_neg ht])
      clear ht
      go_wp2_with fail
      go_ret
      exact ⟨ret_int HQ.out.symm, HBF.out⟩
end Go.Proofs.Ythlnfjbedehjdaa
