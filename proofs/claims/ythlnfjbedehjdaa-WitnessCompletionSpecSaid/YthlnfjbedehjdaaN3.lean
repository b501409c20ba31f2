/- The law WitnessCompletionSpec. -/
import Derived.Test.YthlnfjbedehjdaaF1
import Derived.BigQuiet
namespace Go.Proofs.Ythlnfjbedehjdaa
open Go.RowKit Go.Deep Go.Shelf

set_option maxRecDepth 100000 in
set_option maxHeartbeats 4000000 in
theorem law3 (w : World) (v u : Value) (q : RaceD) (h : IsRace w (NB []) v q) (outs : List Int) (h' : IsInts w (NB []) u outs) :
    Calls Try.prog 3 #[v, u] w fun e w' => e = .returned (.bool true) ∧ Below w.heap.size w w' := by
  obtain ⟨cA, cc, pA, pc, oA, oc, rfl, -⟩ := h.parts
  obtain ⟨uA, uc, rfl, -⟩ := id h'
  have HR := Lib.hid h
  have HU := Lib.hid h'
  clear h h'
  go_enter Try.func3, Try.ntmps3
  go_wp2_with fail
  refine nameW fun W1 hW1 => ?_
  have hb1 : Below w.heap.size w W1 := by rw [hW1.out]; exact (Below.refl _ _).alloc (Nat.le_refl _) _
  have k0 : W1.heap[w.heap.size]? = some (.cells #[.int .i64 q.win, .int .i64 q.draw, .slice cA q.clubs.length cc, .slice pA q.points.length pc, .slice oA q.opn.length oc, .int .i64 q.club, .int .i64 q.place] 25 (0, 0)) := by rw [hW1.out]; exact heap_alloc_new _ _
  have K0 := Lib.hid k0
  have HB1 := Lib.hid hb1
  clear hW1 hb1 k0
  refine (sane_any _).mono ?_
  rintro e W2 ⟨rfl, hb⟩
  have HB2 := Lib.hid (HB1.out.trans (hb.mono HB1.out.size))
  have k0 := (hb.block _ (lt_heap K0.out)).trans K0.out
  clear hb
  have r0 := cell_of (j := 0) k0 rfl
  have r1 := cell_of (j := 1) k0 rfl
  have r2 := cell_of (j := 2) k0 rfl
  have r3 := cell_of (j := 3) k0 rfl
  have r4 := cell_of (j := 4) k0 rfl
  have r5 := cell_of (j := 5) k0 rfl
  have r6 := cell_of (j := 6) k0 rfl
  have HC := Lib.hid (show ∀ W', Below W2.heap.size W2 W' → (W'.cell? ⟨w.heap.size, 0, none⟩ = some (.int .i64 q.win) ∧ W'.cell? ⟨w.heap.size, 1, none⟩ = some (.int .i64 q.draw) ∧ W'.cell? ⟨w.heap.size, 2, none⟩ = some (.slice cA q.clubs.length cc) ∧ W'.cell? ⟨w.heap.size, 3, none⟩ = some (.slice pA q.points.length pc) ∧ W'.cell? ⟨w.heap.size, 4, none⟩ = some (.slice oA q.opn.length oc) ∧ W'.cell? ⟨w.heap.size, 5, none⟩ = some (.int .i64 q.club) ∧ W'.cell? ⟨w.heap.size, 6, none⟩ = some (.int .i64 q.place)) from fun W' h => by
    have e0 := (h.block _ (lt_heap k0)).trans k0
    exact ⟨cell_of e0 rfl, cell_of e0 rfl, cell_of e0 rfl, cell_of e0 rfl, cell_of e0 rfl, cell_of e0 rfl, cell_of e0 rfl⟩)
  clear k0
  by_cases t0 : (30 : Int) < ((q.clubs.length : Int) : Int)
  · have d0 : decide ((30 : Int) < ((q.clubs.length : Int) : Int)) = true := decide_eq_true t0
    clear t0
    go_wp2_with fail
    go_ret
    exact ⟨rfl, HB2.out⟩
  have d0 : decide ((30 : Int) < ((q.clubs.length : Int) : Int)) = false := decide_eq_false t0
  have T0 := Lib.hid t0
  clear t0
  by_cases t1 : (30 : Int) < ((q.points.length : Int) : Int)
  · have d1 : decide ((30 : Int) < ((q.points.length : Int) : Int)) = true := decide_eq_true t1
    clear t1
    go_wp2_with fail
    go_ret
    exact ⟨rfl, HB2.out⟩
  have d1 : decide ((30 : Int) < ((q.points.length : Int) : Int)) = false := decide_eq_false t1
  have T1 := Lib.hid t1
  clear t1
  by_cases t2 : (60 : Int) < ((q.opn.length : Int) : Int)
  · have d2 : decide ((60 : Int) < ((q.opn.length : Int) : Int)) = true := decide_eq_true t2
    clear t2
    go_wp2_with fail
    go_ret
    exact ⟨rfl, HB2.out⟩
  have d2 : decide ((60 : Int) < ((q.opn.length : Int) : Int)) = false := decide_eq_false t2
  have T2 := Lib.hid t2
  clear t2
  by_cases t3 : (60 : Int) < ((outs.length : Int) : Int)
  · have d3 : decide ((60 : Int) < ((outs.length : Int) : Int)) = true := decide_eq_true t3
    clear t3
    go_wp2_with fail
    go_ret
    exact ⟨rfl, HB2.out⟩
  have d3 : decide ((60 : Int) < ((outs.length : Int) : Int)) = false := decide_eq_false t3
  have T3 := Lib.hid t3
  clear t3
  have HL := Lib.hid (show outs.length ≤ 140737488355328 from by have := T3.out; omega)
  obtain ⟨z1, hz1⟩ : ∃ z, z = reachedR q outs := ⟨_, rfl⟩
  obtain ⟨z2, hz2⟩ : ∃ z, z = missedR q outs := ⟨_, rfl⟩
  have D1 := Lib.hid (show ∀ W', Below W2.heap.size W2 W' → Calls Try.prog 11 #[.agg #[.int .i64 q.win, .int .i64 q.draw, .slice cA q.clubs.length cc, .slice pA q.points.length pc, .slice oA q.opn.length oc, .int .i64 q.club, .int .i64 q.place], .slice uA outs.length uc] W' (RetE z1 W') from fun W' h => by
    rw [hz1]
    exact reached_any W' _ _ _ _ q outs (HR.out.below (HB2.out.trans (h.mono HB2.out.size))) (IsSl.below HU.out (HB2.out.trans (h.mono HB2.out.size))) HL.out)
  have D2 := Lib.hid (show ∀ W', Below W2.heap.size W2 W' → Calls Try.prog 12 #[.agg #[.int .i64 q.win, .int .i64 q.draw, .slice cA q.clubs.length cc, .slice pA q.points.length pc, .slice oA q.opn.length oc, .int .i64 q.club, .int .i64 q.place], .slice uA outs.length uc] W' (RetE z1 W') from fun W' h => by
    rw [hz1]
    exact rreached_any W' _ _ _ _ q outs (HR.out.below (HB2.out.trans (h.mono HB2.out.size))) (IsSl.below HU.out (HB2.out.trans (h.mono HB2.out.size))) HL.out)
  have D3 := Lib.hid (show ∀ W', Below W2.heap.size W2 W' → Calls Try.prog 13 #[.agg #[.int .i64 q.win, .int .i64 q.draw, .slice cA q.clubs.length cc, .slice pA q.points.length pc, .slice oA q.opn.length oc, .int .i64 q.club, .int .i64 q.place], .slice uA outs.length uc] W' (RetE z2 W') from fun W' h => by
    rw [hz2]
    exact missed_any W' _ _ _ _ q outs (HR.out.below (HB2.out.trans (h.mono HB2.out.size))) (IsSl.below HU.out (HB2.out.trans (h.mono HB2.out.size))) HL.out)
  have D4 := Lib.hid (show ∀ W', Below W2.heap.size W2 W' → Calls Try.prog 14 #[.agg #[.int .i64 q.win, .int .i64 q.draw, .slice cA q.clubs.length cc, .slice pA q.points.length pc, .slice oA q.opn.length oc, .int .i64 q.club, .int .i64 q.place], .slice uA outs.length uc] W' (RetE z2 W') from fun W' h => by
    rw [hz2]
    exact rmissed_any W' _ _ _ _ q outs (HR.out.below (HB2.out.trans (h.mono HB2.out.size))) (IsSl.below HU.out (HB2.out.trans (h.mono HB2.out.size))) HL.out)
  clear hz1 hz2
  go_upto_region 5 with fail
  refine wp_region_held_drew (S := fun W9 => Below W2.heap.size W2 W9) (by kernel_rfl) (Below.drew (Below.refl _ _)) (fun hHeld => ?_)
  change wpAnyH _ _ _ _ _ 17 #[false, false, false, false, false, false, false, false, false, false, false, false, false, false, false, false, false] _ W2.drew
  refine takeD (i := 0) (d := some 28) (v := ?_) rfl rfl (by kernel_rfl) (by kernel_rfl) (by kernel_rfl) (fun _ _ _ h => h) (Or.inl ⟨by rfl, ?_⟩) hHeld ?_
  rotate_left 1
  focus (intro w hSw; (try dsimp only at hSw); obtain ⟨e0, e1, e2, e3, e4, e5, e6⟩ := HC.out w hSw; go_simp; (try with_reducible rfl))
  (repeat (first | simp only [Act.put] | simp only [List.setIfInBounds_toArray] | simp only [List.set_cons_zero] | simp only [List.set_cons_succ]))
  refine takeD (i := 1) (d := some 29) (v := ?_) rfl rfl (by kernel_rfl) (by kernel_rfl) (by kernel_rfl) (fun _ _ _ h => h) (Or.inl ⟨by rfl, ?_⟩) hHeld ?_
  rotate_left 1
  focus (intro w hSw; (try dsimp only at hSw); go_simp; (try with_reducible rfl))
  (repeat (first | simp only [Act.put] | simp only [List.setIfInBounds_toArray] | simp only [List.set_cons_zero] | simp only [List.set_cons_succ]))
  refine takeD (i := 3) (d := some 31) (v := ?_) rfl rfl (by kernel_rfl) (by kernel_rfl) (by kernel_rfl) (fun _ _ _ h => h) (Or.inl ⟨by rfl, ?_⟩) hHeld ?_
  rotate_left 1
  focus (intro w hSw; (try dsimp only at hSw); obtain ⟨e0, e1, e2, e3, e4, e5, e6⟩ := HC.out w hSw; go_simp; (try with_reducible rfl))
  (repeat (first | simp only [Act.put] | simp only [List.setIfInBounds_toArray] | simp only [List.set_cons_zero] | simp only [List.set_cons_succ]))
  refine takeD (i := 4) (d := some 32) (v := ?_) rfl rfl (by kernel_rfl) (by kernel_rfl) (by kernel_rfl) (fun _ _ _ h => h) (Or.inl ⟨by rfl, ?_⟩) hHeld ?_
  rotate_left 1
  focus (intro w hSw; (try dsimp only at hSw); go_simp; (try with_reducible rfl))
  (repeat (first | simp only [Act.put] | simp only [List.setIfInBounds_toArray] | simp only [List.set_cons_zero] | simp only [List.set_cons_succ]))
  refine wpAnyH_ready (rs := [2]) (by kernel_rfl) (by simp) ?_
  refine AllReadyH.cons rfl (fun K hK => ?_) AllReadyH.nil
  go_simp
  go_at_call 11
  refine (D1.out _ (by repeat (first | with_reducible exact Below.refl _ _ | with_reducible exact HB9.out | (with_reducible refine Below.drew ?_)))).mono ?_
  rintro e w9 ⟨rfl, hb9⟩
  have HBn : Hid (Below W2.heap.size W2 w9) := Lib.hid ((show Below W2.heap.size W2 _ from (by repeat (first | with_reducible exact Below.refl _ _ | with_reducible exact HB9.out | (with_reducible refine Below.drew ?_)))).trans (hb9.mono (show W2.heap.size ≤ _ from (show Below W2.heap.size W2 _ from (by repeat (first | with_reducible exact Below.refl _ _ | with_reducible exact HB9.out | (with_reducible refine Below.drew ?_)))).size)))
  clear hb9
  (try clear HB9)
  have HB9 := HBn
  clear HBn
  refine hK.out _ _ (by repeat (first | with_reducible exact Below.refl _ _ | with_reducible exact HB9.out | (with_reducible refine Below.drew ?_))) (fun hHeld => ?_)
  clear hK K
  (repeat (first | simp only [Act.put] | simp only [List.setIfInBounds_toArray] | simp only [List.set_cons_zero] | simp only [List.set_cons_succ]))
  refine wpAnyH_ready (rs := [5]) (by kernel_rfl) (by simp) ?_
  refine AllReadyH.cons rfl (fun K hK => ?_) AllReadyH.nil
  go_simp
  go_at_call 12
  refine (D2.out _ (by repeat (first | with_reducible exact Below.refl _ _ | with_reducible exact HB9.out | (with_reducible refine Below.drew ?_)))).mono ?_
  rintro e w9 ⟨rfl, hb9⟩
  have HBn : Hid (Below W2.heap.size W2 w9) := Lib.hid ((show Below W2.heap.size W2 _ from (by repeat (first | with_reducible exact Below.refl _ _ | with_reducible exact HB9.out | (with_reducible refine Below.drew ?_)))).trans (hb9.mono (show W2.heap.size ≤ _ from (show Below W2.heap.size W2 _ from (by repeat (first | with_reducible exact Below.refl _ _ | with_reducible exact HB9.out | (with_reducible refine Below.drew ?_)))).size)))
  clear hb9
  (try clear HB9)
  have HB9 := HBn
  clear HBn
  refine hK.out _ _ (by repeat (first | with_reducible exact Below.refl _ _ | with_reducible exact HB9.out | (with_reducible refine Below.drew ?_))) (fun hHeld => ?_)
  clear hK K
  (repeat (first | simp only [Act.put] | simp only [List.setIfInBounds_toArray] | simp only [List.set_cons_zero] | simp only [List.set_cons_succ]))
  refine takeD (i := 6) (d := some 34) (v := ?_) rfl rfl (by kernel_rfl) (by kernel_rfl) (by kernel_rfl) (fun _ _ _ h => h) (Or.inl ⟨by rfl, ?_⟩) hHeld ?_
  rotate_left 1
  focus (intro w hSw; (try dsimp only at hSw); go_simp; (try with_reducible rfl))
  (repeat (first | simp only [Act.put] | simp only [List.setIfInBounds_toArray] | simp only [List.set_cons_zero] | simp only [List.set_cons_succ]))
  refine takeD (i := 7) (d := some 35) (v := ?_) rfl rfl (by kernel_rfl) (by kernel_rfl) (by kernel_rfl) (fun _ _ _ h => h) (Or.inl ⟨by rfl, ?_⟩) hHeld ?_
  rotate_left 1
  focus (intro w hSw; (try dsimp only at hSw); go_simp; (try with_reducible rfl))
  (repeat (first | simp only [Act.put] | simp only [List.setIfInBounds_toArray] | simp only [List.set_cons_zero] | simp only [List.set_cons_succ]))
  refine takeD (i := 8) (d := some 36) (v := ?_) rfl rfl (by kernel_rfl) (by kernel_rfl) (by kernel_rfl) (fun _ _ _ h => h) (Or.inl ⟨by rfl, ?_⟩) hHeld ?_
  rotate_left 1
  focus (intro w hSw; (try dsimp only at hSw); obtain ⟨e0, e1, e2, e3, e4, e5, e6⟩ := HC.out w hSw; go_simp; (try with_reducible rfl))
  (repeat (first | simp only [Act.put] | simp only [List.setIfInBounds_toArray] | simp only [List.set_cons_zero] | simp only [List.set_cons_succ]))
  refine takeD (i := 9) (d := some 37) (v := ?_) rfl rfl (by kernel_rfl) (by kernel_rfl) (by kernel_rfl) (fun _ _ _ h => h) (Or.inl ⟨by rfl, ?_⟩) hHeld ?_
  rotate_left 1
  focus (intro w hSw; (try dsimp only at hSw); go_simp; (try with_reducible rfl))
  (repeat (first | simp only [Act.put] | simp only [List.setIfInBounds_toArray] | simp only [List.set_cons_zero] | simp only [List.set_cons_succ]))
  refine takeD (i := 11) (d := some 39) (v := ?_) rfl rfl (by kernel_rfl) (by kernel_rfl) (by kernel_rfl) (fun _ _ _ h => h) (Or.inl ⟨by rfl, ?_⟩) hHeld ?_
  rotate_left 1
  focus (intro w hSw; (try dsimp only at hSw); obtain ⟨e0, e1, e2, e3, e4, e5, e6⟩ := HC.out w hSw; go_simp; (try with_reducible rfl))
  (repeat (first | simp only [Act.put] | simp only [List.setIfInBounds_toArray] | simp only [List.set_cons_zero] | simp only [List.set_cons_succ]))
  refine takeD (i := 12) (d := some 40) (v := ?_) rfl rfl (by kernel_rfl) (by kernel_rfl) (by kernel_rfl) (fun _ _ _ h => h) (Or.inl ⟨by rfl, ?_⟩) hHeld ?_
  rotate_left 1
  focus (intro w hSw; (try dsimp only at hSw); go_simp; (try with_reducible rfl))
  (repeat (first | simp only [Act.put] | simp only [List.setIfInBounds_toArray] | simp only [List.set_cons_zero] | simp only [List.set_cons_succ]))
  refine wpAnyH_ready (rs := [10]) (by kernel_rfl) (by simp) ?_
  refine AllReadyH.cons rfl (fun K hK => ?_) AllReadyH.nil
  go_simp
  go_at_call 13
  refine (D3.out _ (by repeat (first | with_reducible exact Below.refl _ _ | with_reducible exact HB9.out | (with_reducible refine Below.drew ?_)))).mono ?_
  rintro e w9 ⟨rfl, hb9⟩
  have HBn : Hid (Below W2.heap.size W2 w9) := Lib.hid ((show Below W2.heap.size W2 _ from (by repeat (first | with_reducible exact Below.refl _ _ | with_reducible exact HB9.out | (with_reducible refine Below.drew ?_)))).trans (hb9.mono (show W2.heap.size ≤ _ from (show Below W2.heap.size W2 _ from (by repeat (first | with_reducible exact Below.refl _ _ | with_reducible exact HB9.out | (with_reducible refine Below.drew ?_)))).size)))
  clear hb9
  (try clear HB9)
  have HB9 := HBn
  clear HBn
  refine hK.out _ _ (by repeat (first | with_reducible exact Below.refl _ _ | with_reducible exact HB9.out | (with_reducible refine Below.drew ?_))) (fun hHeld => ?_)
  clear hK K
  (repeat (first | simp only [Act.put] | simp only [List.setIfInBounds_toArray] | simp only [List.set_cons_zero] | simp only [List.set_cons_succ]))
  refine wpAnyH_ready (rs := [13]) (by kernel_rfl) (by simp) ?_
  refine AllReadyH.cons rfl (fun K hK => ?_) AllReadyH.nil
  go_simp
  go_at_call 14
  refine (D4.out _ (by repeat (first | with_reducible exact Below.refl _ _ | with_reducible exact HB9.out | (with_reducible refine Below.drew ?_)))).mono ?_
  rintro e w9 ⟨rfl, hb9⟩
  have HBn : Hid (Below W2.heap.size W2 w9) := Lib.hid ((show Below W2.heap.size W2 _ from (by repeat (first | with_reducible exact Below.refl _ _ | with_reducible exact HB9.out | (with_reducible refine Below.drew ?_)))).trans (hb9.mono (show W2.heap.size ≤ _ from (show Below W2.heap.size W2 _ from (by repeat (first | with_reducible exact Below.refl _ _ | with_reducible exact HB9.out | (with_reducible refine Below.drew ?_)))).size)))
  clear hb9
  (try clear HB9)
  have HB9 := HBn
  clear HBn
  refine hK.out _ _ (by repeat (first | with_reducible exact Below.refl _ _ | with_reducible exact HB9.out | (with_reducible refine Below.drew ?_))) (fun hHeld => ?_)
  clear hK K
  (repeat (first | simp only [Act.put] | simp only [List.setIfInBounds_toArray] | simp only [List.set_cons_zero] | simp only [List.set_cons_succ]))
  refine takeD (i := 14) (d := some 42) (v := ?_) rfl rfl (by kernel_rfl) (by kernel_rfl) (by kernel_rfl) (fun _ _ _ h => h) (Or.inl ⟨by rfl, ?_⟩) hHeld ?_
  rotate_left 1
  focus (intro w hSw; (try dsimp only at hSw); go_simp; (try with_reducible rfl))
  (repeat (first | simp only [Act.put] | simp only [List.setIfInBounds_toArray] | simp only [List.set_cons_zero] | simp only [List.set_cons_succ]))
  refine takeD (i := 15) (d := some 43) (v := ?_) rfl rfl (by kernel_rfl) (by kernel_rfl) (by kernel_rfl) (fun _ _ _ h => h) (Or.inl ⟨by rfl, ?_⟩) hHeld ?_
  rotate_left 1
  focus (intro w hSw; (try dsimp only at hSw); go_simp; (try with_reducible rfl))
  (repeat (first | simp only [Act.put] | simp only [List.setIfInBounds_toArray] | simp only [List.set_cons_zero] | simp only [List.set_cons_succ]))
  refine takeD (i := 16) (d := some 4) (v := ?_) rfl rfl (by kernel_rfl) (by kernel_rfl) (by kernel_rfl) (fun _ _ _ h => h) (Or.inl ⟨by rfl, ?_⟩) hHeld ?_
  rotate_left 1
  focus (intro w hSw; (try dsimp only at hSw); go_simp; (try with_reducible rfl))
  (repeat (first | simp only [Act.put] | simp only [List.setIfInBounds_toArray] | simp only [List.set_cons_zero] | simp only [List.set_cons_succ]))
  refine wpAnyH_done (by kernel_rfl) ?_ _
  go_wp2_with fail
  go_ret
  exact ⟨rfl, HB2.out.trans ((show Below W2.heap.size W2 _ from (by repeat (first | with_reducible exact Below.refl _ _ | with_reducible exact HB9.out | (with_reducible refine Below.drew ?_)))).mono HB2.out.size)⟩

end Go.Proofs.Ythlnfjbedehjdaa
