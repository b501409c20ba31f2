/- The law WitnessSound. -/
import Derived.Test.YthlnfjbedehjdaaL3
import Derived.Test.YthlnfjbedehjdaaA18
import Derived.Test.YthlnfjbedehjdaaF1
import Derived.Test.YthlnfjbedehjdaaZi
import Derived.BigQuiet
namespace Go.Proofs.Ythlnfjbedehjdaa
open Go.RowKit Go.Deep Go.Shelf

set_option maxRecDepth 100000 in
set_option maxHeartbeats 8000000 in
theorem law6 (w : World) (v u u2 : Value) (q : RaceD) (h : IsRace w (NB []) v q) (x : VerD) (h' : IsVer w (NB []) u x) (hs : SmallV x) (bs : List Nat) (h2 : IsB8 w (NB []) u2 bs) (h8 : ∀ x ∈ bs, x < 256) :
    Calls Try.prog 6 #[v, u, u2] w fun e w' => e = .returned (.bool true) ∧ Below w.heap.size w w' := by
  obtain ⟨cA, cc, pA, pc, oA, oc, rfl, -⟩ := h.parts
  obtain ⟨ar, arc, am, amc, at9, atc, rfl, i1, i2, -⟩ := h'.parts
  obtain ⟨sA, sc, rfl, -⟩ := id h2
  have HR := Lib.hid h
  have HU := Lib.hid h'
  have HI1 := Lib.hid i1
  have HI2 := Lib.hid i2
  have HV := Lib.hid h2
  have HV8 := Lib.hid h8
  have HS := Lib.hid hs
  clear h h' h2 hs h8 i1 i2
  go_enter Try.func6, Try.ntmps6
  go_wp2_with fail
  refine nameW fun W1 hW1 => ?_
  have hb1 : Below w.heap.size w W1 := by rw [hW1.out]; exact ((Below.refl _ _).alloc (Nat.le_refl _) _).alloc (by simp) _
  have k0 : W1.heap[w.heap.size]? = some (.cells #[.int .i64 q.win, .int .i64 q.draw, .slice cA q.clubs.length cc, .slice pA q.points.length pc, .slice oA q.opn.length oc, .int .i64 q.club, .int .i64 q.place] 25 (0, 0)) := by rw [hW1.out]; simp only [heap_alloc_if, World.size_alloc]; rw [if_neg (by omega)]; rw [if_pos trivial]
  have k1 : W1.heap[w.heap.size + 1]? = some (.cells #[.int .i64 x.kind, .slice ar x.reached.length arc, .slice am x.missed.length amc, .slice at9 x.cuts.length atc] 35 (0, 0)) := by rw [hW1.out]; simp only [heap_alloc_if, World.size_alloc]; rw [if_pos trivial]
  obtain ⟨B1, hB1⟩ : ∃ B, B = w.heap.size + 1 := ⟨_, rfl⟩
  rw [← hB1] at k1 ⊢
  clear hB1
  have HC := Lib.hid (show ∀ W', Below W1.heap.size W1 W' → (W'.cell? ⟨w.heap.size, 0, none⟩ = some (.int .i64 q.win) ∧ W'.cell? ⟨w.heap.size, 1, none⟩ = some (.int .i64 q.draw) ∧ W'.cell? ⟨w.heap.size, 2, none⟩ = some (.slice cA q.clubs.length cc) ∧ W'.cell? ⟨w.heap.size, 3, none⟩ = some (.slice pA q.points.length pc) ∧ W'.cell? ⟨w.heap.size, 4, none⟩ = some (.slice oA q.opn.length oc) ∧ W'.cell? ⟨w.heap.size, 5, none⟩ = some (.int .i64 q.club) ∧ W'.cell? ⟨w.heap.size, 6, none⟩ = some (.int .i64 q.place) ∧ W'.cell? ⟨B1, 0, none⟩ = some (.int .i64 x.kind) ∧ W'.cell? ⟨B1, 1, none⟩ = some (.slice ar x.reached.length arc) ∧ W'.cell? ⟨B1, 2, none⟩ = some (.slice am x.missed.length amc) ∧ W'.cell? ⟨B1, 3, none⟩ = some (.slice at9 x.cuts.length atc)) from fun W' h => by
    have e0 := (h.block _ (lt_heap k0)).trans k0
    have e1 := (h.block _ (lt_heap k1)).trans k1
    exact ⟨cell_of e0 rfl, cell_of e0 rfl, cell_of e0 rfl, cell_of e0 rfl, cell_of e0 rfl, cell_of e0 rfl, cell_of e0 rfl, cell_of e1 rfl, cell_of e1 rfl, cell_of e1 rfl, cell_of e1 rfl⟩)
  have HB1 := Lib.hid hb1
  have HB : Hid (Below W1.heap.size W1 W1) := Lib.hid (Below.refl _ _)
  clear hW1 hb1 k0 k1
  obtain ⟨c0_0, c0_1, c0_2, c0_3, c0_4, c0_5, c0_6, c1_0, c1_1, c1_2, c1_3⟩ := HC.out _ HB.out
  refine (sane_any _).mono ?_
  rintro e W9 ⟨rfl, hb⟩
  have HBn : Hid (Below W1.heap.size W1 W9) := Lib.hid ((show Below W1.heap.size W1 _ from (by repeat (first | with_reducible exact Below.refl _ _ | with_reducible exact HB.out | (with_reducible refine Below.drew ?_)))).trans (hb.mono (show W1.heap.size ≤ _ from (show Below W1.heap.size W1 _ from (by repeat (first | with_reducible exact Below.refl _ _ | with_reducible exact HB.out | (with_reducible refine Below.drew ?_)))).size)))
  clear hb HB c0_0 c0_1 c0_2 c0_3 c0_4 c0_5 c0_6 c1_0 c1_1 c1_2 c1_3
  have HB := HBn
  clear HBn
  obtain ⟨c0_0, c0_1, c0_2, c0_3, c0_4, c0_5, c0_6, c1_0, c1_1, c1_2, c1_3⟩ := HC.out _ HB.out
  have D1 := Lib.hid (fun (W' : World) (h : Below W1.heap.size W1 W') => rfewr_any W' _ _ q (HR.out.below (HB1.out.trans (h.mono HB1.out.size))))
  obtain ⟨zf, hzf⟩ : ∃ z, z = fewRB q := ⟨_, rfl⟩
  rw [← hzf] at D1
  have HZF := Lib.hid hzf
  clear hzf
  go_wp2_with fail
  refine (D1.out _ (by repeat (first | with_reducible exact Below.refl _ _ | with_reducible exact HB.out | (with_reducible refine Below.drew ?_)))).mono ?_
  rintro e W9 ⟨rfl, hb⟩
  have HBn : Hid (Below W1.heap.size W1 W9) := Lib.hid ((show Below W1.heap.size W1 _ from (by repeat (first | with_reducible exact Below.refl _ _ | with_reducible exact HB.out | (with_reducible refine Below.drew ?_)))).trans (hb.mono (show W1.heap.size ≤ _ from (show Below W1.heap.size W1 _ from (by repeat (first | with_reducible exact Below.refl _ _ | with_reducible exact HB.out | (with_reducible refine Below.drew ?_)))).size)))
  clear hb HB c0_0 c0_1 c0_2 c0_3 c0_4 c0_5 c0_6 c1_0 c1_1 c1_2 c1_3
  have HB := HBn
  clear HBn
  obtain ⟨c0_0, c0_1, c0_2, c0_3, c0_4, c0_5, c0_6, c1_0, c1_1, c1_2, c1_3⟩ := HC.out _ HB.out
  by_cases hf : zf = true
  case neg =>
    rw [show zf = false by simpa using hf]
    clear hf
    go_wp2_with fail
    go_ret
    exact ⟨rfl, HB1.out.trans ((show Below W1.heap.size W1 _ from (by repeat (first | with_reducible exact Below.refl _ _ | with_reducible exact HB.out | (with_reducible refine Below.drew ?_)))).mono HB1.out.size)⟩
  have H6 := Lib.hid (fewRB_iff.1 (HZF.out.symm.trans hf)).1
  rw [hf]
  clear hf HZF D1
  have D2 := Lib.hid (fun (W' : World) (h : Below W1.heap.size W1 W') => fewv_any W' _ _ x (HU.out.below (HB1.out.trans (h.mono HB1.out.size))) HS.out)
  obtain ⟨zf, hzf⟩ : ∃ z, z = fewVB x := ⟨_, rfl⟩
  rw [← hzf] at D2
  have HZF := Lib.hid hzf
  clear hzf
  go_wp2_with fail
  refine (D2.out _ (by repeat (first | with_reducible exact Below.refl _ _ | with_reducible exact HB.out | (with_reducible refine Below.drew ?_)))).mono ?_
  rintro e W9 ⟨rfl, hb⟩
  have HBn : Hid (Below W1.heap.size W1 W9) := Lib.hid ((show Below W1.heap.size W1 _ from (by repeat (first | with_reducible exact Below.refl _ _ | with_reducible exact HB.out | (with_reducible refine Below.drew ?_)))).trans (hb.mono (show W1.heap.size ≤ _ from (show Below W1.heap.size W1 _ from (by repeat (first | with_reducible exact Below.refl _ _ | with_reducible exact HB.out | (with_reducible refine Below.drew ?_)))).size)))
  clear hb HB c0_0 c0_1 c0_2 c0_3 c0_4 c0_5 c0_6 c1_0 c1_1 c1_2 c1_3
  have HB := HBn
  clear HBn
  obtain ⟨c0_0, c0_1, c0_2, c0_3, c0_4, c0_5, c0_6, c1_0, c1_1, c1_2, c1_3⟩ := HC.out _ HB.out
  by_cases hf : zf = true
  case neg =>
    rw [show zf = false by simpa using hf]
    clear hf
    go_wp2_with fail
    go_ret
    exact ⟨rfl, HB1.out.trans ((show Below W1.heap.size W1 _ from (by repeat (first | with_reducible exact Below.refl _ _ | with_reducible exact HB.out | (with_reducible refine Below.drew ?_)))).mono HB1.out.size)⟩
  have HF := Lib.hid (fewVB_few (HZF.out.symm.trans hf))
  rw [hf]
  clear hf HZF D2
  obtain ⟨z1, hz1⟩ : ∃ z, z = checkR q x := ⟨_, rfl⟩
  have D4 := Lib.hid (show ∀ W', Below W1.heap.size W1 W' → Calls Try.prog 19 _ W' (RetE z1 W') from fun W' h => by
    have y := check29_any W' _ _ _ _ q x (HR.out.below (HB1.out.trans (h.mono HB1.out.size))) (HU.out.below (HB1.out.trans (h.mono HB1.out.size))) H6.out HF.out
    rw [← hz1] at y; exact y)
  have HZz1 := Lib.hid hz1
  clear hz1
  go_wp2_with fail
  refine (D4.out _ (by repeat (first | with_reducible exact Below.refl _ _ | with_reducible exact HB.out | (with_reducible refine Below.drew ?_)))).mono ?_
  rintro e W9 ⟨rfl, hb⟩
  have HBn : Hid (Below W1.heap.size W1 W9) := Lib.hid ((show Below W1.heap.size W1 _ from (by repeat (first | with_reducible exact Below.refl _ _ | with_reducible exact HB.out | (with_reducible refine Below.drew ?_)))).trans (hb.mono (show W1.heap.size ≤ _ from (show Below W1.heap.size W1 _ from (by repeat (first | with_reducible exact Below.refl _ _ | with_reducible exact HB.out | (with_reducible refine Below.drew ?_)))).size)))
  clear hb HB c0_0 c0_1 c0_2 c0_3 c0_4 c0_5 c0_6 c1_0 c1_1 c1_2 c1_3
  have HB := HBn
  clear HBn
  obtain ⟨c0_0, c0_1, c0_2, c0_3, c0_4, c0_5, c0_6, c1_0, c1_1, c1_2, c1_3⟩ := HC.out _ HB.out
  by_cases t : z1 = 0
  case neg =>
    have t1 : (z1 != 0) = true := by rw [bne_iff_ne]; exact t
    clear t
    go_wp2_with fail
    go_ret
    exact ⟨rfl, HB1.out.trans ((show Below W1.heap.size W1 _ from (by repeat (first | with_reducible exact Below.refl _ _ | with_reducible exact HB.out | (with_reducible refine Below.drew ?_)))).mono HB1.out.size)⟩
  have HEz1 := Lib.hid (HZz1.out.symm.trans t)
  have t1 : (z1 != 0) = false := by rw [bne_eq_false_iff_eq]; exact t
  clear t HZz1 D4
  have HVB := Lib.hid (check_valid HEz1.out)
  have HVR := Lib.hid (validB_iff.1 HVB.out)
  have D5 := Lib.hid (show ∀ W', Below W1.heap.size W1 W' → _ from fun W' h => rvalid_any W' _ _ q (HR.out.below (HB1.out.trans (h.mono HB1.out.size))))
  rw [HVB.out] at D5
  go_wp2_with fail
  refine (D5.out _ (by repeat (first | with_reducible exact Below.refl _ _ | with_reducible exact HB.out | (with_reducible refine Below.drew ?_)))).mono ?_
  rintro e W9 ⟨rfl, hb⟩
  have HBn : Hid (Below W1.heap.size W1 W9) := Lib.hid ((show Below W1.heap.size W1 _ from (by repeat (first | with_reducible exact Below.refl _ _ | with_reducible exact HB.out | (with_reducible refine Below.drew ?_)))).trans (hb.mono (show W1.heap.size ≤ _ from (show Below W1.heap.size W1 _ from (by repeat (first | with_reducible exact Below.refl _ _ | with_reducible exact HB.out | (with_reducible refine Below.drew ?_)))).size)))
  clear hb HB c0_0 c0_1 c0_2 c0_3 c0_4 c0_5 c0_6 c1_0 c1_1 c1_2 c1_3
  have HB := HBn
  clear HBn
  obtain ⟨c0_0, c0_1, c0_2, c0_3, c0_4, c0_5, c0_6, c1_0, c1_1, c1_2, c1_3⟩ := HC.out _ HB.out
  obtain ⟨p, hp⟩ : ∃ p, p = finTo q (oF bs) q.opn.length := ⟨_, rfl⟩
  have HPL := Lib.hid (show p.length = q.clubs.length by rw [hp, finTo_length, HVR.out.size.pts])
  have D6 := Lib.hid (show ∀ W', Below W1.heap.size W1 W' → Calls Try.prog 23 _ W' (FinW W' p) from fun W' h => by
    have y := finals_any W' _ _ _ _ q bs (HR.out.below (HB1.out.trans (h.mono HB1.out.size))) (IsSl.below HV.out (HB1.out.trans (h.mono HB1.out.size))) HV8.out HVR.out
    rw [← hp] at y; exact y)
  have HSD := Lib.hid (sound_kinds HEz1.out (oF bs) (fun i _ => oF_in bs i))
  rw [← hp] at HSD
  obtain ⟨more, hmo⟩ : ∃ z, z = moreR q p := ⟨_, rfl⟩
  obtain ⟨many, hma⟩ : ∃ z, z = manyR q p := ⟨_, rfl⟩
  have HMO := Lib.hid hmo
  have HMA := Lib.hid hma
  rw [← hmo, ← hma] at HSD
  clear hp hmo hma
  go_upto_region 7 with fail
  go_cut [7, 8] (fun s7 s8 W => s7 = .int .i64 (more : Int) ∧ s8 = .int .i64 (many : Int) ∧ Hid (Below W1.heap.size W1 W))
  case first =>
    refine wp_region_held_drew (S := fun W9 => Below W1.heap.size W1 W9) (by kernel_rfl) (Below.drew HB.out) (fun hHeld => ?_)
    change wpAnyH _ _ _ _ _ 10 #[false, false, false, false, false, false, false, false, false, false] _ W9.drew
    refine takeD (i := 0) (d := some 29) (v := ?_) rfl rfl (by kernel_rfl) (by kernel_rfl) (by kernel_rfl) (fun _ _ _ h => h) (Or.inl ⟨by rfl, ?_⟩) hHeld ?_
    rotate_left 1
    focus (intro w hSw; (try dsimp only at hSw); obtain ⟨c0_0, c0_1, c0_2, c0_3, c0_4, c0_5, c0_6, c1_0, c1_1, c1_2, c1_3⟩ := HC.out w hSw; go_simp; (try with_reducible rfl))
    (repeat (first | simp only [Act.put] | simp only [List.setIfInBounds_toArray] | simp only [List.set_cons_zero] | simp only [List.set_cons_succ]))
    refine takeD (i := 1) (d := some 30) (v := ?_) rfl rfl (by kernel_rfl) (by kernel_rfl) (by kernel_rfl) (fun _ _ _ h => h) (Or.inl ⟨by rfl, ?_⟩) hHeld ?_
    rotate_left 1
    focus (intro w hSw; (try dsimp only at hSw); obtain ⟨c0_0, c0_1, c0_2, c0_3, c0_4, c0_5, c0_6, c1_0, c1_1, c1_2, c1_3⟩ := HC.out w hSw; go_simp; (try with_reducible rfl))
    (repeat (first | simp only [Act.put] | simp only [List.setIfInBounds_toArray] | simp only [List.set_cons_zero] | simp only [List.set_cons_succ]))
    refine takeD (i := 2) (d := some 31) (v := ?_) rfl rfl (by kernel_rfl) (by kernel_rfl) (by kernel_rfl) (fun _ _ _ h => h) (Or.inl ⟨by rfl, ?_⟩) hHeld ?_
    rotate_left 1
    focus (intro w hSw; (try dsimp only at hSw); go_simp; (try with_reducible rfl))
    (repeat (first | simp only [Act.put] | simp only [List.setIfInBounds_toArray] | simp only [List.set_cons_zero] | simp only [List.set_cons_succ]))
    refine wpAnyH_ready (rs := [3]) (by kernel_rfl) (by simp) ?_
    refine AllReadyH.cons rfl (fun K hK => ?_) AllReadyH.nil
    go_simp
    go_at_call 23
    refine (D6.out _ (by repeat (first | with_reducible exact Below.refl _ _ | with_reducible exact HB.out | (with_reducible refine Below.drew ?_)))).mono ?_
    rintro e w9 ⟨A9, d9, rfl, hown9, hb9⟩
    have HBn : Hid (Below W1.heap.size W1 w9) := Lib.hid ((show Below W1.heap.size W1 _ from (by repeat (first | with_reducible exact Below.refl _ _ | with_reducible exact HB.out | (with_reducible refine Below.drew ?_)))).trans (hb9.mono (show W1.heap.size ≤ _ from (show Below W1.heap.size W1 _ from (by repeat (first | with_reducible exact Below.refl _ _ | with_reducible exact HB.out | (with_reducible refine Below.drew ?_)))).size)))
    have HO9 := Lib.hid (IsInts.ofOwn hown9)
    clear hown9
    clear hb9 HB
    have HB := HBn
    clear HBn
    refine hK.out _ _ (by repeat (first | with_reducible exact Below.refl _ _ | with_reducible exact HB.out | (with_reducible refine Below.drew ?_))) (fun hHeld => ?_)
    clear hK K
    (repeat (first | simp only [Act.put] | simp only [List.setIfInBounds_toArray] | simp only [List.set_cons_zero] | simp only [List.set_cons_succ]))
    refine wpAnyH_ready (rs := [4]) (by kernel_rfl) (by simp) ?_
    refine AllReadyH.cons rfl (fun K hK => ?_) AllReadyH.nil
    go_simp
    go_at_call 22
    refine (rabove_any _ _ _ _ _ q p (HR.out.below (HB1.out.trans ((show Below W1.heap.size W1 _ from (by repeat (first | with_reducible exact Below.refl _ _ | with_reducible exact HB.out | (with_reducible refine Below.drew ?_)))).mono HB1.out.size))) HO9.out (by rw [HPL.out]; have := HVR.out.size.n24; omega) (by rw [HPL.out]; exact ⟨HVR.out.size.c0, HVR.out.size.cn⟩)).mono ?_
    rintro e w9 ⟨rfl, hb9⟩
    have HBn : Hid (Below W1.heap.size W1 w9) := Lib.hid ((show Below W1.heap.size W1 _ from (by repeat (first | with_reducible exact Below.refl _ _ | with_reducible exact HB.out | (with_reducible refine Below.drew ?_)))).trans (hb9.mono (show W1.heap.size ≤ _ from (show Below W1.heap.size W1 _ from (by repeat (first | with_reducible exact Below.refl _ _ | with_reducible exact HB.out | (with_reducible refine Below.drew ?_)))).size)))
    clear hb9 HB
    have HB := HBn
    clear HBn
    refine hK.out _ _ (by repeat (first | with_reducible exact Below.refl _ _ | with_reducible exact HB.out | (with_reducible refine Below.drew ?_))) (fun hHeld => ?_)
    clear hK K
    (repeat (first | simp only [Act.put] | simp only [List.setIfInBounds_toArray] | simp only [List.set_cons_zero] | simp only [List.set_cons_succ]))
    refine takeD (i := 5) (d := some 28) (v := ?_) rfl rfl (by kernel_rfl) (by kernel_rfl) (by kernel_rfl) (fun _ _ _ h => h) (Or.inl ⟨by rfl, ?_⟩) hHeld ?_
    rotate_left 1
    focus (intro w hSw; (try dsimp only at hSw); go_simp; (try with_reducible rfl))
    (repeat (first | simp only [Act.put] | simp only [List.setIfInBounds_toArray] | simp only [List.set_cons_zero] | simp only [List.set_cons_succ]))
    refine takeD (i := 6) (d := some 34) (v := ?_) rfl rfl (by kernel_rfl) (by kernel_rfl) (by kernel_rfl) (fun _ _ _ h => h) (Or.inl ⟨by rfl, ?_⟩) hHeld ?_
    rotate_left 1
    focus (intro w hSw; (try dsimp only at hSw); go_simp; (try with_reducible rfl))
    (repeat (first | simp only [Act.put] | simp only [List.setIfInBounds_toArray] | simp only [List.set_cons_zero] | simp only [List.set_cons_succ]))
    refine takeD (i := 7) (d := some 35) (v := ?_) rfl rfl (by kernel_rfl) (by kernel_rfl) (by kernel_rfl) (fun _ _ _ h => h) (Or.inl ⟨by rfl, ?_⟩) hHeld ?_
    rotate_left 1
    focus (intro w hSw; (try dsimp only at hSw); go_simp; (try with_reducible rfl))
    (repeat (first | simp only [Act.put] | simp only [List.setIfInBounds_toArray] | simp only [List.set_cons_zero] | simp only [List.set_cons_succ]))
    refine takeD (i := 8) (d := some 7) (v := ?_) rfl rfl (by kernel_rfl) (by kernel_rfl) (by kernel_rfl) (fun _ _ _ h => h) (Or.inl ⟨by rfl, ?_⟩) hHeld ?_
    rotate_left 1
    focus (intro w hSw; (try dsimp only at hSw); go_simp; (try with_reducible rfl))
    (repeat (first | simp only [Act.put] | simp only [List.setIfInBounds_toArray] | simp only [List.set_cons_zero] | simp only [List.set_cons_succ]))
    refine takeD (i := 9) (d := some 8) (v := ?_) rfl rfl (by kernel_rfl) (by kernel_rfl) (by kernel_rfl) (fun _ _ _ h => h) (Or.inl ⟨by rfl, ?_⟩) hHeld ?_
    rotate_left 1
    focus (intro w hSw; (try dsimp only at hSw); go_simp; (try with_reducible rfl))
    (repeat (first | simp only [Act.put] | simp only [List.setIfInBounds_toArray] | simp only [List.set_cons_zero] | simp only [List.set_cons_succ]))
    refine wpAnyH_done (by kernel_rfl) ?_ _
    go_wp2_with fail
    go_meet
    case rel => exact ⟨by rw [HMO.out], by rw [HMA.out], Lib.hid (by repeat (first | with_reducible exact Below.refl _ _ | with_reducible exact HB.out | (with_reducible refine Below.drew ?_)))⟩
  case rest =>
    obtain ⟨rfl, rfl, HBc⟩ := hcut
    clear HB D5 D6 c0_0 c0_1 c0_2 c0_3 c0_4 c0_5 c0_6 c1_0 c1_1 c1_2 c1_3
    have HB := HBc
    clear HBc
    have D7 := Lib.hid (show ∀ W', Below W1.heap.size W1 W' → _ from fun W' h => reached_any W' _ _ _ _ q x.reached (HR.out.below (HB1.out.trans (h.mono HB1.out.size))) (IsSl.below HI1.out (HB1.out.trans (h.mono HB1.out.size))) (by have := HF.out.r; omega))
    have D8 := Lib.hid (show ∀ W', Below W1.heap.size W1 W' → _ from fun W' h => missed_any W' _ _ _ _ q x.missed (HR.out.below (HB1.out.trans (h.mono HB1.out.size))) (IsSl.below HI2.out (HB1.out.trans (h.mono HB1.out.size))) (by have := HF.out.m; omega))
    obtain ⟨za, hza⟩ : ∃ z, z = reachedR q x.reached := ⟨_, rfl⟩
    obtain ⟨zb, hzb⟩ : ∃ z, z = missedR q x.missed := ⟨_, rfl⟩
    rw [← hza] at D7 HSD
    rw [← hzb] at D8 HSD
    obtain ⟨kd, hkd⟩ : ∃ z, z = x.kind := ⟨_, rfl⟩
    rw [← hkd] at HC HSD ⊢
    clear hza hzb hkd
    obtain ⟨c0_0, c0_1, c0_2, c0_3, c0_4, c0_5, c0_6, c1_0, c1_1, c1_2, c1_3⟩ := HC.out _ HB.out
    by_cases e1 : kd = 1
    · have b1 : (kd == 1) = true := by rw [beq_iff_eq]; exact e1
      have m1 : decide ((many : Int) ≤ q.place - 1) = true := decide_eq_true (by have := HSD.out.1 e1; omega)
      have HPB := Lib.hid HVR.out.size
      have q1 := HPB.out.p1
      have q2 := HPB.out.pn
      have q3 := HPB.out.n24
      have m2 : decide ((many : Int) < q.place) = true := decide_eq_true (by have := HSD.out.1 e1; omega)
      clear e1
      go_wp2_with fail
      go_ret
      exact ⟨rfl, HB1.out.trans ((show Below W1.heap.size W1 _ from (by repeat (first | with_reducible exact Below.refl _ _ | with_reducible exact HB.out | (with_reducible refine Below.drew ?_)))).mono HB1.out.size)⟩
    have b1 : (kd == 1) = false := by rw [beq_eq_false_iff_ne]; exact e1
    by_cases e2 : kd = 2
    · have b2 : (kd == 2) = true := by rw [beq_iff_eq]; exact e2
      have m1 : decide (q.place ≤ (more : Int)) = true := decide_eq_true (HSD.out.2.1 e2)
      clear e1 e2
      go_wp2_with fail
      go_ret
      exact ⟨rfl, HB1.out.trans ((show Below W1.heap.size W1 _ from (by repeat (first | with_reducible exact Below.refl _ _ | with_reducible exact HB.out | (with_reducible refine Below.drew ?_)))).mono HB1.out.size)⟩
    have b2 : (kd == 2) = false := by rw [beq_eq_false_iff_ne]; exact e2
    by_cases e3 : kd = 3
    · have b3 : (kd == 3) = true := by rw [beq_iff_eq]; exact e3
      obtain ⟨rfl, rfl⟩ := HSD.out.2.2.1 e3
      clear e1 e2 e3
      go_wp2_with fail
      refine (D7.out _ (by repeat (first | with_reducible exact Below.refl _ _ | with_reducible exact HB.out | (with_reducible refine Below.drew ?_)))).mono ?_
      rintro e W9 ⟨rfl, hb⟩
      have HBn : Hid (Below W1.heap.size W1 W9) := Lib.hid ((show Below W1.heap.size W1 _ from (by repeat (first | with_reducible exact Below.refl _ _ | with_reducible exact HB.out | (with_reducible refine Below.drew ?_)))).trans (hb.mono (show W1.heap.size ≤ _ from (show Below W1.heap.size W1 _ from (by repeat (first | with_reducible exact Below.refl _ _ | with_reducible exact HB.out | (with_reducible refine Below.drew ?_)))).size)))
      clear hb HB c0_0 c0_1 c0_2 c0_3 c0_4 c0_5 c0_6 c1_0 c1_1 c1_2 c1_3
      have HB := HBn
      clear HBn
      obtain ⟨c0_0, c0_1, c0_2, c0_3, c0_4, c0_5, c0_6, c1_0, c1_1, c1_2, c1_3⟩ := HC.out _ HB.out
      go_wp2_with fail
      refine (D8.out _ (by repeat (first | with_reducible exact Below.refl _ _ | with_reducible exact HB.out | (with_reducible refine Below.drew ?_)))).mono ?_
      rintro e W9 ⟨rfl, hb⟩
      have HBn : Hid (Below W1.heap.size W1 W9) := Lib.hid ((show Below W1.heap.size W1 _ from (by repeat (first | with_reducible exact Below.refl _ _ | with_reducible exact HB.out | (with_reducible refine Below.drew ?_)))).trans (hb.mono (show W1.heap.size ≤ _ from (show Below W1.heap.size W1 _ from (by repeat (first | with_reducible exact Below.refl _ _ | with_reducible exact HB.out | (with_reducible refine Below.drew ?_)))).size)))
      clear hb HB c0_0 c0_1 c0_2 c0_3 c0_4 c0_5 c0_6 c1_0 c1_1 c1_2 c1_3
      have HB := HBn
      clear HBn
      obtain ⟨c0_0, c0_1, c0_2, c0_3, c0_4, c0_5, c0_6, c1_0, c1_1, c1_2, c1_3⟩ := HC.out _ HB.out
      go_wp2_with fail
      go_ret
      exact ⟨rfl, HB1.out.trans ((show Below W1.heap.size W1 _ from (by repeat (first | with_reducible exact Below.refl _ _ | with_reducible exact HB.out | (with_reducible refine Below.drew ?_)))).mono HB1.out.size)⟩
    have b3 : (kd == 3) = false := by rw [beq_eq_false_iff_ne]; exact e3
    have b4 : (kd == 4) = true := by rw [beq_iff_eq]; exact HSD.out.2.2.2 e1 e2 e3
    clear e1 e2 e3
    go_wp2_with fail
    go_ret
    exact ⟨rfl, HB1.out.trans ((show Below W1.heap.size W1 _ from (by repeat (first | with_reducible exact Below.refl _ _ | with_reducible exact HB.out | (with_reducible refine Below.drew ?_)))).mono HB1.out.size)⟩
end Go.Proofs.Ythlnfjbedehjdaa
