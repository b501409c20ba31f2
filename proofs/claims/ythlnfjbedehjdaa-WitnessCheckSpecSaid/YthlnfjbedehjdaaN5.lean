/- The law WitnessCheckSpec. -/
import Derived.Test.YthlnfjbedehjdaaG9
import Derived.Test.YthlnfjbedehjdaaF1
import Derived.Test.YthlnfjbedehjdaaZi
import Derived.BigQuiet
namespace Go.Proofs.Ythlnfjbedehjdaa
open Go.RowKit Go.Deep Go.Shelf

set_option maxRecDepth 100000 in
set_option maxHeartbeats 4000000 in
theorem law5 (w : World) (v u : Value) (q : RaceD) (h : IsRace w (NB []) v q) (x : VerD) (h' : IsVer w (NB []) u x) (hs : SmallV x) :
    Calls Try.prog 5 #[v, u] w fun e w' => e = .returned (.bool true) ∧ Below w.heap.size w w' := by
  obtain ⟨cA, cc, pA, pc, oA, oc, rfl, -⟩ := h.parts
  obtain ⟨rA, rc, mA, mc, tA, tc, rfl, -⟩ := h'.parts
  have HR := Lib.hid h
  have HU := Lib.hid h'
  have HS := Lib.hid hs
  clear h h' hs
  go_enter Try.func5, Try.ntmps5
  go_wp2_with fail
  refine nameW fun W1 hW1 => ?_
  have hb1 : Below w.heap.size w W1 := by rw [hW1.out]; exact ((Below.refl _ _).alloc (Nat.le_refl _) _).alloc (by simp) _
  have k0 : W1.heap[w.heap.size]? = some (.cells #[.int .i64 q.win, .int .i64 q.draw, .slice cA q.clubs.length cc, .slice pA q.points.length pc, .slice oA q.opn.length oc, .int .i64 q.club, .int .i64 q.place] 25 (0, 0)) := by rw [hW1.out, heap_alloc_if, if_neg (by simp)]; exact heap_alloc_new _ _
  have k1 : W1.heap[w.heap.size + 1]? = some (.cells #[.int .i64 x.kind, .slice rA x.reached.length rc, .slice mA x.missed.length mc, .slice tA x.cuts.length tc] 35 (0, 0)) := by rw [hW1.out, heap_alloc_if, if_pos (by simp)]
  have K0 := Lib.hid k0
  have K1 := Lib.hid k1
  have HB1 := Lib.hid hb1
  obtain ⟨B1, hB1⟩ : ∃ B1, B1 = w.heap.size + 1 := ⟨_, rfl⟩
  rw [← hB1] at K1 ⊢
  clear hW1 hb1 k0 k1 hB1
  refine (sane_any _).mono ?_
  rintro e W2 ⟨rfl, hb⟩
  have HB2 := Lib.hid (HB1.out.trans (hb.mono HB1.out.size))
  have k0 := (hb.block _ (lt_heap K0.out)).trans K0.out
  have k1 := (hb.block _ (lt_heap K1.out)).trans K1.out
  clear hb
  have r0 := cell_of (j := 0) k0 rfl
  have r1 := cell_of (j := 1) k0 rfl
  have r2 := cell_of (j := 2) k0 rfl
  have r3 := cell_of (j := 3) k0 rfl
  have r4 := cell_of (j := 4) k0 rfl
  have r5 := cell_of (j := 5) k0 rfl
  have r6 := cell_of (j := 6) k0 rfl
  have L0 := Lib.hid k0
  have L1 := Lib.hid k1
  clear k0 k1 K0 K1
  go_wp2_with fail
  refine (rfewr_any W2 _ _ q (HR.out.below HB2.out)).mono ?_
  rintro e W3 ⟨rfl, hb⟩
  have HB3 := Lib.hid (HB2.out.trans (hb.mono HB2.out.size))
  have k0 := (hb.block _ (lt_heap L0.out)).trans L0.out
  have k1 := (hb.block _ (lt_heap L1.out)).trans L1.out
  clear hb L0 L1 HB2 HB1 r0 r1 r2 r3 r4 r5 r6
  by_cases hf : fewRB q = true
  case neg =>
    rw [show fewRB q = false by simpa using hf]
    clear hf
    go_wp2_with fail
    go_ret
    exact ⟨rfl, HB3.out⟩
  have H6 := Lib.hid (fewRB_iff.1 hf).1
  rw [hf]
  clear hf
  have c0 := cell_of (j := 0) k1 rfl
  have c1 := cell_of (j := 1) k1 rfl
  have c2 := cell_of (j := 2) k1 rfl
  have c3 := cell_of (j := 3) k1 rfl
  have L0 := Lib.hid k0
  have L1 := Lib.hid k1
  clear k0 k1
  go_wp2_with fail
  refine (fewv_any W3 _ _ x (HU.out.below HB3.out) HS.out).mono ?_
  rintro e W4 ⟨rfl, hb⟩
  have HBK := Lib.hid (HB3.out.trans (hb.mono HB3.out.size))
  have k0 := (hb.block _ (lt_heap L0.out)).trans L0.out
  have k1 := (hb.block _ (lt_heap L1.out)).trans L1.out
  clear hb L0 L1 HB3 c0 c1 c2 c3
  by_cases hf : fewVB x = true
  case neg =>
    rw [show fewVB x = false by simpa using hf]
    clear hf
    go_wp2_with fail
    go_ret
    exact ⟨rfl, HBK.out⟩
  have HF := Lib.hid (fewVB_few hf)
  rw [hf]
  clear hf
  have HC := Lib.hid (show ∀ W', Below W4.heap.size W4 W' → (W'.cell? ⟨w.heap.size, 0, none⟩ = some (.int .i64 q.win) ∧ W'.cell? ⟨w.heap.size, 1, none⟩ = some (.int .i64 q.draw) ∧ W'.cell? ⟨w.heap.size, 2, none⟩ = some (.slice cA q.clubs.length cc) ∧ W'.cell? ⟨w.heap.size, 3, none⟩ = some (.slice pA q.points.length pc) ∧ W'.cell? ⟨w.heap.size, 4, none⟩ = some (.slice oA q.opn.length oc) ∧ W'.cell? ⟨w.heap.size, 5, none⟩ = some (.int .i64 q.club) ∧ W'.cell? ⟨w.heap.size, 6, none⟩ = some (.int .i64 q.place) ∧ W'.cell? ⟨B1, 0, none⟩ = some (.int .i64 x.kind) ∧ W'.cell? ⟨B1, 1, none⟩ = some (.slice rA x.reached.length rc) ∧ W'.cell? ⟨B1, 2, none⟩ = some (.slice mA x.missed.length mc) ∧ W'.cell? ⟨B1, 3, none⟩ = some (.slice tA x.cuts.length tc)) from fun W' h => by
    have e0 := (h.block _ (lt_heap k0)).trans k0
    have e1 := (h.block _ (lt_heap k1)).trans k1
    exact ⟨cell_of e0 rfl, cell_of e0 rfl, cell_of e0 rfl, cell_of e0 rfl, cell_of e0 rfl, cell_of e0 rfl, cell_of e0 rfl, cell_of e1 rfl, cell_of e1 rfl, cell_of e1 rfl, cell_of e1 rfl⟩)
  clear k0 k1
  obtain ⟨z1, hz1⟩ : ∃ z, z = checkR q x := ⟨_, rfl⟩
  have D1 := Lib.hid (show ∀ W', Below W4.heap.size W4 W' → Calls Try.prog 19 #[.agg #[.int .i64 q.win, .int .i64 q.draw, .slice cA q.clubs.length cc, .slice pA q.points.length pc, .slice oA q.opn.length oc, .int .i64 q.club, .int .i64 q.place], .agg #[.int .i64 x.kind, .slice rA x.reached.length rc, .slice mA x.missed.length mc, .slice tA x.cuts.length tc]] W' (RetE z1 W') from fun W' h => by
    rw [hz1]
    exact check29_any W' _ _ _ _ q x (HR.out.below (HBK.out.trans (h.mono HBK.out.size))) (HU.out.below (HBK.out.trans (h.mono HBK.out.size))) H6.out HF.out)
  have D2 := Lib.hid (show ∀ W', Below W4.heap.size W4 W' → Calls Try.prog 20 #[.agg #[.int .i64 q.win, .int .i64 q.draw, .slice cA q.clubs.length cc, .slice pA q.points.length pc, .slice oA q.opn.length oc, .int .i64 q.club, .int .i64 q.place], .agg #[.int .i64 x.kind, .slice rA x.reached.length rc, .slice mA x.missed.length mc, .slice tA x.cuts.length tc]] W' (RetE z1 W') from fun W' h => by
    rw [hz1]
    exact rcheck29_any W' _ _ _ _ q x (HR.out.below (HBK.out.trans (h.mono HBK.out.size))) (HU.out.below (HBK.out.trans (h.mono HBK.out.size))) H6.out HF.out)
  clear hz1
  go_upto_region 5 with fail
  refine wp_region_held_drew (S := fun W9 => Below W4.heap.size W4 W9) (by kernel_rfl) (Below.drew (Below.refl _ _)) (fun hHeld => ?_)
  change wpAnyH _ _ _ _ _ 8 #[false, false, false, false, false, false, false, false] _ W4.drew
  refine takeD (i := 0) (d := some 15) (v := ?_) rfl rfl (by kernel_rfl) (by kernel_rfl) (by kernel_rfl) (fun _ _ _ h => h) (Or.inl ⟨by rfl, ?_⟩) hHeld ?_
  rotate_left 1
  focus (intro w hSw; (try dsimp only at hSw); obtain ⟨e0, e1, e2, e3, e4, e5, e6, e7, e8, e9, e10⟩ := HC.out w hSw; go_simp; (try with_reducible rfl))
  (repeat (first | simp only [Act.put] | simp only [List.setIfInBounds_toArray] | simp only [List.set_cons_zero] | simp only [List.set_cons_succ]))
  refine takeD (i := 1) (d := some 16) (v := ?_) rfl rfl (by kernel_rfl) (by kernel_rfl) (by kernel_rfl) (fun _ _ _ h => h) (Or.inl ⟨by rfl, ?_⟩) hHeld ?_
  rotate_left 1
  focus (intro w hSw; (try dsimp only at hSw); obtain ⟨e0, e1, e2, e3, e4, e5, e6, e7, e8, e9, e10⟩ := HC.out w hSw; go_simp; (try with_reducible rfl))
  (repeat (first | simp only [Act.put] | simp only [List.setIfInBounds_toArray] | simp only [List.set_cons_zero] | simp only [List.set_cons_succ]))
  refine takeD (i := 3) (d := some 18) (v := ?_) rfl rfl (by kernel_rfl) (by kernel_rfl) (by kernel_rfl) (fun _ _ _ h => h) (Or.inl ⟨by rfl, ?_⟩) hHeld ?_
  rotate_left 1
  focus (intro w hSw; (try dsimp only at hSw); obtain ⟨e0, e1, e2, e3, e4, e5, e6, e7, e8, e9, e10⟩ := HC.out w hSw; go_simp; (try with_reducible rfl))
  (repeat (first | simp only [Act.put] | simp only [List.setIfInBounds_toArray] | simp only [List.set_cons_zero] | simp only [List.set_cons_succ]))
  refine takeD (i := 4) (d := some 19) (v := ?_) rfl rfl (by kernel_rfl) (by kernel_rfl) (by kernel_rfl) (fun _ _ _ h => h) (Or.inl ⟨by rfl, ?_⟩) hHeld ?_
  rotate_left 1
  focus (intro w hSw; (try dsimp only at hSw); obtain ⟨e0, e1, e2, e3, e4, e5, e6, e7, e8, e9, e10⟩ := HC.out w hSw; go_simp; (try with_reducible rfl))
  (repeat (first | simp only [Act.put] | simp only [List.setIfInBounds_toArray] | simp only [List.set_cons_zero] | simp only [List.set_cons_succ]))
  refine wpAnyH_ready (rs := [2]) (by kernel_rfl) (by simp) ?_
  refine AllReadyH.cons rfl (fun K hK => ?_) AllReadyH.nil
  go_simp
  go_at_call 19
  refine (D1.out _ (by repeat (first | with_reducible exact Below.refl _ _ | with_reducible exact HB9.out | (with_reducible refine Below.drew ?_)))).mono ?_
  rintro e w9 ⟨rfl, hb9⟩
  have HBn : Hid (Below W4.heap.size W4 w9) := Lib.hid ((show Below W4.heap.size W4 _ from (by repeat (first | with_reducible exact Below.refl _ _ | with_reducible exact HB9.out | (with_reducible refine Below.drew ?_)))).trans (hb9.mono (show W4.heap.size ≤ _ from (show Below W4.heap.size W4 _ from (by repeat (first | with_reducible exact Below.refl _ _ | with_reducible exact HB9.out | (with_reducible refine Below.drew ?_)))).size)))
  clear hb9
  (try clear HB9)
  have HB9 := HBn
  clear HBn
  refine hK.out _ _ (by repeat (first | with_reducible exact Below.refl _ _ | with_reducible exact HB9.out | (with_reducible refine Below.drew ?_))) (fun hHeld => ?_)
  clear hK K
  (repeat (first | simp only [Act.put] | simp only [List.setIfInBounds_toArray] | simp only [List.set_cons_zero] | simp only [List.set_cons_succ]))
  refine wpAnyH_ready (rs := [5]) (by kernel_rfl) (by simp) ?_
  refine AllReadyH.cons rfl (fun K hK => ?_) AllReadyH.nil
  go_simp
  go_at_call 20
  refine (D2.out _ (by repeat (first | with_reducible exact Below.refl _ _ | with_reducible exact HB9.out | (with_reducible refine Below.drew ?_)))).mono ?_
  rintro e w9 ⟨rfl, hb9⟩
  have HBn : Hid (Below W4.heap.size W4 w9) := Lib.hid ((show Below W4.heap.size W4 _ from (by repeat (first | with_reducible exact Below.refl _ _ | with_reducible exact HB9.out | (with_reducible refine Below.drew ?_)))).trans (hb9.mono (show W4.heap.size ≤ _ from (show Below W4.heap.size W4 _ from (by repeat (first | with_reducible exact Below.refl _ _ | with_reducible exact HB9.out | (with_reducible refine Below.drew ?_)))).size)))
  clear hb9
  (try clear HB9)
  have HB9 := HBn
  clear HBn
  refine hK.out _ _ (by repeat (first | with_reducible exact Below.refl _ _ | with_reducible exact HB9.out | (with_reducible refine Below.drew ?_))) (fun hHeld => ?_)
  clear hK K
  (repeat (first | simp only [Act.put] | simp only [List.setIfInBounds_toArray] | simp only [List.set_cons_zero] | simp only [List.set_cons_succ]))
  refine takeD (i := 6) (d := some 21) (v := ?_) rfl rfl (by kernel_rfl) (by kernel_rfl) (by kernel_rfl) (fun _ _ _ h => h) (Or.inl ⟨by rfl, ?_⟩) hHeld ?_
  rotate_left 1
  focus (intro w hSw; (try dsimp only at hSw); go_simp; (try with_reducible rfl))
  (repeat (first | simp only [Act.put] | simp only [List.setIfInBounds_toArray] | simp only [List.set_cons_zero] | simp only [List.set_cons_succ]))
  refine takeD (i := 7) (d := some 4) (v := ?_) rfl rfl (by kernel_rfl) (by kernel_rfl) (by kernel_rfl) (fun _ _ _ h => h) (Or.inl ⟨by rfl, ?_⟩) hHeld ?_
  rotate_left 1
  focus (intro w hSw; (try dsimp only at hSw); go_simp; (try with_reducible rfl))
  (repeat (first | simp only [Act.put] | simp only [List.setIfInBounds_toArray] | simp only [List.set_cons_zero] | simp only [List.set_cons_succ]))
  refine wpAnyH_done (by kernel_rfl) ?_ _
  go_wp2_with fail
  go_ret
  exact ⟨rfl, HBK.out.trans ((show Below W4.heap.size W4 _ from (by repeat (first | with_reducible exact Below.refl _ _ | with_reducible exact HB9.out | (with_reducible refine Below.drew ?_)))).mono HBK.out.size)⟩

end Go.Proofs.Ythlnfjbedehjdaa
