/- The law WitnessCutSpec. -/
import Derived.Test.YthlnfjbedehjdaaF2
import Derived.Test.YthlnfjbedehjdaaF1
import Derived.BigQuiet
namespace Go.Proofs.Ythlnfjbedehjdaa
open Go.RowKit Go.Deep Go.Shelf

theorem cuts_one {w : World} {B : Nat} {fA uA gA : Option Addr} {fc uc gc : Nat} {c : CutD} (h : w.heap[B]? = some (.cells #[.slice fA c.free.length fc, .slice uA c.clubs.length uc, .slice gA c.games.length gc] 31 (0, 0))) (i1 : IsInts w (fun _ => True) (.slice fA c.free.length fc) c.free)
    (i2 : IsInts w (fun _ => True) (.slice uA c.clubs.length uc) c.clubs) (i3 : IsInts w (fun _ => True) (.slice gA c.games.length gc) c.games) : IsVer w (fun _ => True) (.agg #[.int .i64 0, .slice none 0 0, .slice none 0 0, .slice (some ⟨B, 0, none⟩) 1 1]) ⟨0, [], [], [c]⟩ :=
  ⟨_, _, _, rfl, IsSl.nil, IsSl.nil, some ⟨B, 0, none⟩, 1, rfl, by simp, by simp, fun _ => ⟨B, 0, rfl, trivial, fun i hi => by
    obtain rfl : i = 0 := by simpa using hi
    exact ⟨fA, fc, uA, uc, gA, gc, cell_of (j := 0) h rfl, cell_of (j := 1) h rfl, cell_of (j := 2) h rfl, i1, i2, i3⟩⟩⟩
set_option maxRecDepth 100000 in
set_option maxHeartbeats 4000000 in
theorem law4 (w : World) (v u : Value) (q : RaceD) (h : IsRace w (NB []) v q) (certain : Bool) (c : CutD) (h' : IsCut w (NB []) u c)
    (hl1 : c.free.length ≤ 140737488355328) (hl2 : c.clubs.length ≤ 140737488355328) (hl3 : c.games.length ≤ 140737488355328) :
    Calls Try.prog 4 #[v, .bool certain, u] w fun e w' => e = .returned (.bool true) ∧ Below w.heap.size w w' := by
  obtain ⟨cA, cc, pA, pc, oA, oc, rfl, -⟩ := h.parts
  obtain ⟨fA, fc, uA, uc, gA, gc, rfl, i1, i2, i3⟩ := h'.parts
  have HR := Lib.hid h
  have HU := Lib.hid h'
  have HI1 := Lib.hid i1
  have HI2 := Lib.hid i2
  have HI3 := Lib.hid i3
  have HL1 := Lib.hid hl1
  have HL2 := Lib.hid hl2
  have HL3 := Lib.hid hl3
  clear h h' i1 i2 i3 hl1 hl2 hl3
  go_enter Try.func4, Try.ntmps4
  go_wp2_with fail
  refine nameW fun W1 hW1 => ?_
  have hb1 : Below w.heap.size w W1 := by rw [hW1.out]; exact ((Below.refl _ _).alloc (Nat.le_refl _) _).alloc (by simp) _
  have k0 : W1.heap[w.heap.size]? = some (.cells #[.int .i64 q.win, .int .i64 q.draw, .slice cA q.clubs.length cc, .slice pA q.points.length pc, .slice oA q.opn.length oc, .int .i64 q.club, .int .i64 q.place] 25 (0, 0)) := by rw [hW1.out, heap_alloc_if, if_neg (by simp)]; exact heap_alloc_new _ _
  have k1 : W1.heap[w.heap.size + 1]? = some (.cells #[.slice fA c.free.length fc, .slice uA c.clubs.length uc, .slice gA c.games.length gc] 31 (0, 0)) := by rw [hW1.out, heap_alloc_if, if_pos (by simp)]
  have K0 := Lib.hid k0
  have K1 := Lib.hid k1
  have HB1 := Lib.hid hb1
  obtain ⟨B1, hB1⟩ : ∃ B1, B1 = w.heap.size + 1 := ⟨_, rfl⟩
  rw [← hB1] at K1 ⊢
  clear hW1 hb1 k0 k1 hB1
  refine (sane_any _).mono ?_
  rintro e W2 ⟨rfl, hb⟩
  have HB2 := Lib.hid (HB1.out.trans (hb.mono HB1.out.size))
  have k0 := (hb.block _ (lt_heap K0.out)).trans K0.out
  have k1 := (hb.block _ (lt_heap K1.out)).trans K1.out
  clear hb
  have r0 := cell_of (j := 0) k0 rfl
  have r1 := cell_of (j := 1) k0 rfl
  have r2 := cell_of (j := 2) k0 rfl
  have r3 := cell_of (j := 3) k0 rfl
  have r4 := cell_of (j := 4) k0 rfl
  have r5 := cell_of (j := 5) k0 rfl
  have r6 := cell_of (j := 6) k0 rfl
  have c0 := cell_of (j := 0) k1 rfl
  have c1 := cell_of (j := 1) k1 rfl
  have c2 := cell_of (j := 2) k1 rfl
  by_cases t0 : (30 : Int) < ((q.clubs.length : Int) : Int)
  · have d0 : decide ((30 : Int) < ((q.clubs.length : Int) : Int)) = true := decide_eq_true t0
    clear t0
    go_wp2_with fail
    go_ret
    exact ⟨rfl, HB2.out⟩
  have d0 : decide ((30 : Int) < ((q.clubs.length : Int) : Int)) = false := decide_eq_false t0
  have T0 := Lib.hid t0
  clear t0
  by_cases t1 : (30 : Int) < ((q.points.length : Int) : Int)
  · have d1 : decide ((30 : Int) < ((q.points.length : Int) : Int)) = true := decide_eq_true t1
    clear t1
    go_wp2_with fail
    go_ret
    exact ⟨rfl, HB2.out⟩
  have d1 : decide ((30 : Int) < ((q.points.length : Int) : Int)) = false := decide_eq_false t1
  have T1 := Lib.hid t1
  clear t1
  by_cases t2 : (60 : Int) < ((q.opn.length : Int) : Int)
  · have d2 : decide ((60 : Int) < ((q.opn.length : Int) : Int)) = true := decide_eq_true t2
    clear t2
    go_wp2_with fail
    go_ret
    exact ⟨rfl, HB2.out⟩
  have d2 : decide ((60 : Int) < ((q.opn.length : Int) : Int)) = false := decide_eq_false t2
  have T2 := Lib.hid t2
  clear t2
  have K0 := Lib.hid k0
  have K1 := Lib.hid k1
  clear k0 k1
  go_wp2_with fail
  refine nameW fun W3 hW3 => ?_
  have hb3 : Below W2.heap.size W2 W3 := by rw [hW3.out]; exact (Below.refl _ _).alloc (Nat.le_refl _) _
  have k2 : W3.heap[W2.heap.size]? = some (.cells #[.slice fA c.free.length fc, .slice uA c.clubs.length uc, .slice gA c.games.length gc] 31 (0, 0)) := by rw [hW3.out]; exact heap_alloc_new _ _
  have hb9 : Below w.heap.size w W3 := HB2.out.trans (hb3.mono HB2.out.size)
  clear hW3
  refine (fewv_any W3 _ _ ⟨0, [], [], [c]⟩ (cuts_one k2 (IsSl.mono (IsSl.below HI1.out hb9) (fun _ _ _ => trivial) (by omega)) (IsSl.mono (IsSl.below HI2.out hb9) (fun _ _ _ => trivial) (by omega)) (IsSl.mono (IsSl.below HI3.out hb9) (fun _ _ _ => trivial) (by omega))) ⟨by simp, by simp, by simp, fun i hi => by
    obtain rfl : i = 0 := by simpa using hi
    exact ⟨HL1.out, HL2.out, HL3.out⟩⟩).mono ?_
  rintro e W4 ⟨rfl, hb⟩
  have hb4 : Below W2.heap.size W2 W4 := hb3.trans (hb.mono hb3.size)
  have k0 := (hb4.block _ (lt_heap K0.out)).trans K0.out
  have k1 := (hb4.block _ (lt_heap K1.out)).trans K1.out
  have HBK := Lib.hid (HB2.out.trans (hb4.mono HB2.out.size))
  clear hb hb4 hb3 k2 hb9 HB2 K0 K1 r0 r1 r2 r3 r4 r5 r6 c0 c1 c2
  have r0 := cell_of (j := 0) k0 rfl
  have r1 := cell_of (j := 1) k0 rfl
  have r2 := cell_of (j := 2) k0 rfl
  have r3 := cell_of (j := 3) k0 rfl
  have r4 := cell_of (j := 4) k0 rfl
  have r5 := cell_of (j := 5) k0 rfl
  have r6 := cell_of (j := 6) k0 rfl
  have c0 := cell_of (j := 0) k1 rfl
  have c1 := cell_of (j := 1) k1 rfl
  have c2 := cell_of (j := 2) k1 rfl
  have HC := Lib.hid (show ∀ W', Below W4.heap.size W4 W' → (W'.cell? ⟨w.heap.size, 0, none⟩ = some (.int .i64 q.win) ∧ W'.cell? ⟨w.heap.size, 1, none⟩ = some (.int .i64 q.draw) ∧ W'.cell? ⟨w.heap.size, 2, none⟩ = some (.slice cA q.clubs.length cc) ∧ W'.cell? ⟨w.heap.size, 3, none⟩ = some (.slice pA q.points.length pc) ∧ W'.cell? ⟨w.heap.size, 4, none⟩ = some (.slice oA q.opn.length oc) ∧ W'.cell? ⟨w.heap.size, 5, none⟩ = some (.int .i64 q.club) ∧ W'.cell? ⟨w.heap.size, 6, none⟩ = some (.int .i64 q.place) ∧ W'.cell? ⟨B1, 0, none⟩ = some (.slice fA c.free.length fc) ∧ W'.cell? ⟨B1, 1, none⟩ = some (.slice uA c.clubs.length uc) ∧ W'.cell? ⟨B1, 2, none⟩ = some (.slice gA c.games.length gc)) from fun W' h => by
    have e0 := (h.block _ (lt_heap k0)).trans k0
    have e1 := (h.block _ (lt_heap k1)).trans k1
    exact ⟨cell_of e0 rfl, cell_of e0 rfl, cell_of e0 rfl, cell_of e0 rfl, cell_of e0 rfl, cell_of e0 rfl, cell_of e0 rfl, cell_of e1 rfl, cell_of e1 rfl, cell_of e1 rfl⟩)
  clear k0 k1
  obtain ⟨zf, hzf⟩ : ∃ z, z = fewVB ⟨0, [], [], [c]⟩ := ⟨_, rfl⟩
  rw [← hzf]
  clear hzf
  cases zf
  · go_wp2_with fail
    go_ret
    exact ⟨rfl, HBK.out⟩
  obtain ⟨z1, hz1⟩ : ∃ z, z = cutR q certain c := ⟨_, rfl⟩
  have D1 := Lib.hid (show ∀ W', Below W4.heap.size W4 W' → Calls Try.prog 16 #[.agg #[.int .i64 q.win, .int .i64 q.draw, .slice cA q.clubs.length cc, .slice pA q.points.length pc, .slice oA q.opn.length oc, .int .i64 q.club, .int .i64 q.place], .bool certain, .agg #[.slice fA c.free.length fc, .slice uA c.clubs.length uc, .slice gA c.games.length gc]] W' (RetE z1 W') from fun W' h => by
    rw [hz1]
    exact cut_any W' _ _ _ _ q certain c (HR.out.below (HBK.out.trans (h.mono HBK.out.size))) (HU.out.below (HBK.out.trans (h.mono HBK.out.size))) HL1.out HL2.out)
  have D2 := Lib.hid (show ∀ W', Below W4.heap.size W4 W' → Calls Try.prog 17 #[.agg #[.int .i64 q.win, .int .i64 q.draw, .slice cA q.clubs.length cc, .slice pA q.points.length pc, .slice oA q.opn.length oc, .int .i64 q.club, .int .i64 q.place], .bool certain, .agg #[.slice fA c.free.length fc, .slice uA c.clubs.length uc, .slice gA c.games.length gc]] W' (RetE z1 W') from fun W' h => by
    rw [hz1]
    exact rcut_any W' _ _ _ _ q certain c (HR.out.below (HBK.out.trans (h.mono HBK.out.size))) (HU.out.below (HBK.out.trans (h.mono HBK.out.size))) HL1.out HL2.out)
  clear hz1
  go_upto_region 5 with fail
  refine wp_region_held_drew (S := fun W9 => Below W4.heap.size W4 W9) (by kernel_rfl) (Below.drew (Below.refl _ _)) (fun hHeld => ?_)
  change wpAnyH _ _ _ _ _ 10 #[false, false, false, false, false, false, false, false, false, false] _ W4.drew
  refine takeD (i := 0) (d := some 32) (v := ?_) rfl rfl (by kernel_rfl) (by kernel_rfl) (by kernel_rfl) (fun _ _ _ h => h) (Or.inl ⟨by rfl, ?_⟩) hHeld ?_
  rotate_left 1
  focus (intro w hSw; (try dsimp only at hSw); obtain ⟨e0, e1, e2, e3, e4, e5, e6, e7, e8, e9⟩ := HC.out w hSw; go_simp; (try with_reducible rfl))
  (repeat (first | simp only [Act.put] | simp only [List.setIfInBounds_toArray] | simp only [List.set_cons_zero] | simp only [List.set_cons_succ]))
  refine takeD (i := 1) (d := some 33) (v := ?_) rfl rfl (by kernel_rfl) (by kernel_rfl) (by kernel_rfl) (fun _ _ _ h => h) (Or.inl ⟨by rfl, ?_⟩) hHeld ?_
  rotate_left 1
  focus (intro w hSw; (try dsimp only at hSw); go_simp; (try with_reducible rfl))
  (repeat (first | simp only [Act.put] | simp only [List.setIfInBounds_toArray] | simp only [List.set_cons_zero] | simp only [List.set_cons_succ]))
  refine takeD (i := 2) (d := some 34) (v := ?_) rfl rfl (by kernel_rfl) (by kernel_rfl) (by kernel_rfl) (fun _ _ _ h => h) (Or.inl ⟨by rfl, ?_⟩) hHeld ?_
  rotate_left 1
  focus (intro w hSw; (try dsimp only at hSw); obtain ⟨e0, e1, e2, e3, e4, e5, e6, e7, e8, e9⟩ := HC.out w hSw; go_simp; (try with_reducible rfl))
  (repeat (first | simp only [Act.put] | simp only [List.setIfInBounds_toArray] | simp only [List.set_cons_zero] | simp only [List.set_cons_succ]))
  refine takeD (i := 4) (d := some 36) (v := ?_) rfl rfl (by kernel_rfl) (by kernel_rfl) (by kernel_rfl) (fun _ _ _ h => h) (Or.inl ⟨by rfl, ?_⟩) hHeld ?_
  rotate_left 1
  focus (intro w hSw; (try dsimp only at hSw); obtain ⟨e0, e1, e2, e3, e4, e5, e6, e7, e8, e9⟩ := HC.out w hSw; go_simp; (try with_reducible rfl))
  (repeat (first | simp only [Act.put] | simp only [List.setIfInBounds_toArray] | simp only [List.set_cons_zero] | simp only [List.set_cons_succ]))
  refine takeD (i := 5) (d := some 37) (v := ?_) rfl rfl (by kernel_rfl) (by kernel_rfl) (by kernel_rfl) (fun _ _ _ h => h) (Or.inl ⟨by rfl, ?_⟩) hHeld ?_
  rotate_left 1
  focus (intro w hSw; (try dsimp only at hSw); go_simp; (try with_reducible rfl))
  (repeat (first | simp only [Act.put] | simp only [List.setIfInBounds_toArray] | simp only [List.set_cons_zero] | simp only [List.set_cons_succ]))
  refine takeD (i := 6) (d := some 38) (v := ?_) rfl rfl (by kernel_rfl) (by kernel_rfl) (by kernel_rfl) (fun _ _ _ h => h) (Or.inl ⟨by rfl, ?_⟩) hHeld ?_
  rotate_left 1
  focus (intro w hSw; (try dsimp only at hSw); obtain ⟨e0, e1, e2, e3, e4, e5, e6, e7, e8, e9⟩ := HC.out w hSw; go_simp; (try with_reducible rfl))
  (repeat (first | simp only [Act.put] | simp only [List.setIfInBounds_toArray] | simp only [List.set_cons_zero] | simp only [List.set_cons_succ]))
  refine wpAnyH_ready (rs := [3]) (by kernel_rfl) (by simp) ?_
  refine AllReadyH.cons rfl (fun K hK => ?_) AllReadyH.nil
  go_simp
  go_at_call 16
  refine (D1.out _ (by repeat (first | with_reducible exact Below.refl _ _ | with_reducible exact HB9.out | (with_reducible refine Below.drew ?_)))).mono ?_
  rintro e w9 ⟨rfl, hb9⟩
  have HBn : Hid (Below W4.heap.size W4 w9) := Lib.hid ((show Below W4.heap.size W4 _ from (by repeat (first | with_reducible exact Below.refl _ _ | with_reducible exact HB9.out | (with_reducible refine Below.drew ?_)))).trans (hb9.mono (show W4.heap.size ≤ _ from (show Below W4.heap.size W4 _ from (by repeat (first | with_reducible exact Below.refl _ _ | with_reducible exact HB9.out | (with_reducible refine Below.drew ?_)))).size)))
  clear hb9
  (try clear HB9)
  have HB9 := HBn
  clear HBn
  refine hK.out _ _ (by repeat (first | with_reducible exact Below.refl _ _ | with_reducible exact HB9.out | (with_reducible refine Below.drew ?_))) (fun hHeld => ?_)
  clear hK K
  (repeat (first | simp only [Act.put] | simp only [List.setIfInBounds_toArray] | simp only [List.set_cons_zero] | simp only [List.set_cons_succ]))
  refine wpAnyH_ready (rs := [7]) (by kernel_rfl) (by simp) ?_
  refine AllReadyH.cons rfl (fun K hK => ?_) AllReadyH.nil
  go_simp
  go_at_call 17
  refine (D2.out _ (by repeat (first | with_reducible exact Below.refl _ _ | with_reducible exact HB9.out | (with_reducible refine Below.drew ?_)))).mono ?_
  rintro e w9 ⟨rfl, hb9⟩
  have HBn : Hid (Below W4.heap.size W4 w9) := Lib.hid ((show Below W4.heap.size W4 _ from (by repeat (first | with_reducible exact Below.refl _ _ | with_reducible exact HB9.out | (with_reducible refine Below.drew ?_)))).trans (hb9.mono (show W4.heap.size ≤ _ from (show Below W4.heap.size W4 _ from (by repeat (first | with_reducible exact Below.refl _ _ | with_reducible exact HB9.out | (with_reducible refine Below.drew ?_)))).size)))
  clear hb9
  (try clear HB9)
  have HB9 := HBn
  clear HBn
  refine hK.out _ _ (by repeat (first | with_reducible exact Below.refl _ _ | with_reducible exact HB9.out | (with_reducible refine Below.drew ?_))) (fun hHeld => ?_)
  clear hK K
  (repeat (first | simp only [Act.put] | simp only [List.setIfInBounds_toArray] | simp only [List.set_cons_zero] | simp only [List.set_cons_succ]))
  refine takeD (i := 8) (d := some 40) (v := ?_) rfl rfl (by kernel_rfl) (by kernel_rfl) (by kernel_rfl) (fun _ _ _ h => h) (Or.inl ⟨by rfl, ?_⟩) hHeld ?_
  rotate_left 1
  focus (intro w hSw; (try dsimp only at hSw); go_simp; (try with_reducible rfl))
  (repeat (first | simp only [Act.put] | simp only [List.setIfInBounds_toArray] | simp only [List.set_cons_zero] | simp only [List.set_cons_succ]))
  refine takeD (i := 9) (d := some 6) (v := ?_) rfl rfl (by kernel_rfl) (by kernel_rfl) (by kernel_rfl) (fun _ _ _ h => h) (Or.inl ⟨by rfl, ?_⟩) hHeld ?_
  rotate_left 1
  focus (intro w hSw; (try dsimp only at hSw); go_simp; (try with_reducible rfl))
  (repeat (first | simp only [Act.put] | simp only [List.setIfInBounds_toArray] | simp only [List.set_cons_zero] | simp only [List.set_cons_succ]))
  refine wpAnyH_done (by kernel_rfl) ?_ _
  go_wp2_with fail
  go_ret
  exact ⟨rfl, HBK.out.trans ((show Below W4.heap.size W4 _ from (by repeat (first | with_reducible exact Below.refl _ _ | with_reducible exact HB9.out | (with_reducible refine Below.drew ?_)))).mono HBK.out.size)⟩

end Go.Proofs.Ythlnfjbedehjdaa
