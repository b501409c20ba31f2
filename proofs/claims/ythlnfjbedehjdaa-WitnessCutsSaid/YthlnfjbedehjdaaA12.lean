/- fits. -/
import Derived.Test.YthlnfjbedehjdaaZc
import Derived.BigQuiet
namespace Go.Proofs.Ythlnfjbedehjdaa
open Go.RowKit Go.Deep Go.Shelf

set_option maxRecDepth 20000 in
set_option maxHeartbeats 4000000 in
theorem fits_any (w : World) (M M' : Nat → Prop) (v u : Value) (q : RaceD) (certain : Bool) (c : CutD) (h : IsRace w M v q) (h' : IsCut w M' u c) (hv : ValidR q) (hl1 : c.free.length ≤ 140737488355328) (hl2 : c.clubs.length ≤ 140737488355328) :
    Calls Try.prog 31 #[v, .bool certain, u] w fun e w' => e = .returned (.bool (fitsB q certain c)) ∧ Below w.heap.size w w' := by
  obtain ⟨cb, hcb⟩ : ∃ cb : Nat, q.club = (cb : Int) := ⟨q.club.toNat, by have := hv.size.c0; omega⟩
  obtain ⟨cA, cc, pA, pc, oA, oc, rfl, hc, hp, ho⟩ := h.parts
  obtain ⟨fA, fc, uA, uc, gA, gc, rfl, hcf, hcu, hcg⟩ := h'.parts
  rw [hcb] at h ⊢
  have HR := Lib.hid (show IsRace w M (.agg #[.int .i64 q.win, .int .i64 q.draw, .slice cA q.clubs.length cc, .slice pA q.points.length pc, .slice oA q.opn.length oc, .int .i64 (cb : Int), .int .i64 q.place]) q from h)
  have HP := Lib.hid hp
  have HO := Lib.hid ho
  have HF := Lib.hid hcf
  have HU := Lib.hid hcu
  have HG := Lib.hid hcg
  have HV := Lib.hid hv
  have HCB := Lib.hid hcb
  have hd0 := hv.size.d0
  have hd9 : q.draw ≤ 999 := by have := hv.size.dw; have := hv.size.w9; omega
  have hp1 := hv.size.p1
  have hp24 : q.place ≤ 24 := by have := hv.size.pn; have := hv.size.n24; omega
  have hop := hv.size.opn
  have hcn : cb < q.points.length := by have := hv.size.cn; have := hv.size.pts; omega
  have CH := fun (W : World) (hB : Below w.heap.size w W) => Lib.hid (halves_any W M _ q (HR.out.below hB) ⟨hd0, hd9⟩)
  have CF := fun (W : World) (hB : Below w.heap.size w W) => Lib.hid (isSet_any W M M' _ _ q c.free (HR.out.below hB) (IsSl.below HF.out hB) hl1)
  have CU := fun (W : World) (hB : Below w.heap.size w W) => Lib.hid (isSet_any W M M' _ _ q c.clubs (HR.out.below hB) (IsSl.below HU.out hB) hl2)
  have CS := fun (W : World) (hB : Below w.heap.size w W) => Lib.hid (size_any W M _ q (HR.out.below hB) certain ⟨hp1, hp24⟩)
  have CX := fun (x : Int) (W : World) (hB : Below w.heap.size w W) => Lib.hid ((contains_any W M' _ c.clubs (IsSl.below HU.out hB) x hl2).mono fun _ _ h => And.intro h.1 h.2.symm)
  have CY := fun (x : Int) (W : World) (hB : Below w.heap.size w W) => Lib.hid ((contains_any W M' _ c.free (IsSl.below HF.out hB) x hl1).mono fun _ _ h => And.intro h.1 h.2.symm)
  obtain ⟨z, hz⟩ : ∃ z, z = fitsB q certain c := ⟨_, rfl⟩
  have HNO := Lib.hid (show ¬ FitR q certain c → z = false from fun h => hz.trans (fits_no h))
  have HYES := Lib.hid (show FitR q certain c → z = true from fun h => hz.trans (fits_yes h))
  rw [← hz]
  obtain ⟨hs, hhs⟩ : ∃ hs, hs = halvesB q := ⟨_, rfl⟩
  obtain ⟨s1, hs1⟩ : ∃ s1, s1 = setB q c.free := ⟨_, rfl⟩
  obtain ⟨s2, hs2⟩ : ∃ s2, s2 = setB q c.clubs := ⟨_, rfl⟩
  obtain ⟨sk, hsk⟩ : ∃ sk, sk = sizeK q certain := ⟨_, rfl⟩
  have hsk9 : 0 ≤ sk ∧ sk ≤ 24 := by rw [hsk]; unfold sizeK; split <;> omega
  rw [← hhs] at CH
  rw [← hs1] at CF
  rw [← hs2] at CU
  rw [← hsk] at CS
  obtain ⟨g, hg⟩ : ∃ g, g = (hs && s1 && s2 && !decide (c.clubs.length = 0) && decide ((c.free.length : Int) = sk)) := ⟨_, rfl⟩
  have HGN := Lib.hid (show g = false → z = false from fun e => HNO.out fun hf => by
    rw [hg] at e
    rw [hhs, hs1, hs2, hsk, hf.halves, hf.free, hf.clubs, decide_eq_true hf.size, decide_eq_false (fun h => hf.some (List.eq_nil_of_length_eq_zero h))] at e
    cases e)
  have HGY := Lib.hid (show g = true → (halvesB q = true ∧ setB q c.free = true ∧ setB q c.clubs = true ∧ c.clubs ≠ [] ∧ (c.free.length : Int) = sizeK q certain) from fun e => by
    rw [hg] at e
    simp only [Bool.and_eq_true, decide_eq_true_eq, Bool.not_eq_true', decide_eq_false_iff_not] at e
    rw [← hhs, ← hs1, ← hs2, ← hsk]
    exact ⟨e.1.1.1.1, e.1.1.1.2, e.1.1.2, fun h => e.1.2 (by rw [h]; rfl), e.2⟩)
  have HGG := Lib.hid hg
  clear hz hhs hs1 hs2 hsk hg hc hp ho h h' hcf hcu hcg hv hcb
  obtain ⟨nf, hnf⟩ : ∃ nf, nf = c.free.length := ⟨_, rfl⟩
  obtain ⟨nu, hnu⟩ : ∃ nu, nu = c.clubs.length := ⟨_, rfl⟩
  rw [← hnf] at CF CY HGG HF hl1
  rw [← hnu] at CU CX HGG HU hl2
  rw [← hnf, ← hnu]
  have HNF := Lib.hid hnf
  have HNU := Lib.hid hnu
  clear hnf hnu
  go_enter Try.func31, Try.ntmps31
  go_upto_region 1 with fail
  refine nameC fun W1 hW1 => ?_
  have hb1 : Below w.heap.size w W1 := by rw [hW1.out]; exact ((Below.refl _ _).alloc (Nat.le_refl _) _).alloc (by simp) _
  have k0 : W1.heap[w.heap.size]? = some (.cells #[.int .i64 q.win, .int .i64 q.draw, .slice cA q.clubs.length cc, .slice pA q.points.length pc, .slice oA q.opn.length oc, .int .i64 (cb : Int), .int .i64 q.place] 55 (0, 0)) := by rw [hW1.out, heap_alloc_if, if_neg (by simp)]; exact heap_alloc_new _ _
  have k1 : W1.heap[w.heap.size + 1]? = some (.cells #[.slice fA nf fc, .slice uA nu uc, .slice gA c.games.length gc] 31 (0, 0)) := by
    rw [hW1.out, heap_alloc_if, if_pos (by simp)]
  have hsz1 : W1.heap.size = w.heap.size + 1 + 1 := by rw [hW1.out]; simp
  have K0 := Lib.hid k0
  have K1 := Lib.hid k1
  have HB1 := Lib.hid hb1
  have HZ1 := Lib.hid hsz1
  clear hW1 hb1 hsz1
  obtain ⟨B1, hB1⟩ : ∃ B1, B1 = w.heap.size + 1 := ⟨_, rfl⟩
  rw [← hB1] at k1 ⊢
  have hq0 : w.heap.size < W1.heap.size := lt_heap k0
  have hq1 : B1 < W1.heap.size := lt_heap k1
  have HBL := Lib.hid (show ∀ W', Below W1.heap.size W1 W' → Below w.heap.size w W' from fun W' h => HB1.out.trans (h.mono HB1.out.size))
  have HC := Lib.hid (show ∀ W', Below W1.heap.size W1 W' → (W'.cell? ⟨w.heap.size, 0, none⟩ = some (.int .i64 q.win) ∧ W'.cell? ⟨w.heap.size, 1, none⟩ = some (.int .i64 q.draw) ∧ W'.cell? ⟨w.heap.size, 2, none⟩ = some (.slice cA q.clubs.length cc) ∧ W'.cell? ⟨w.heap.size, 3, none⟩ = some (.slice pA q.points.length pc) ∧ W'.cell? ⟨w.heap.size, 4, none⟩ = some (.slice oA q.opn.length oc) ∧ W'.cell? ⟨w.heap.size, 5, none⟩ = some (.int .i64 (cb : Int)) ∧ W'.cell? ⟨w.heap.size, 6, none⟩ = some (.int .i64 q.place) ∧ W'.cell? ⟨B1, 0, none⟩ = some (.slice fA nf fc) ∧ W'.cell? ⟨B1, 1, none⟩ = some (.slice uA nu uc) ∧ W'.cell? ⟨B1, 2, none⟩ = some (.slice gA c.games.length gc)) from fun W' h => by
    have e0 := (h.block _ hq0).trans k0
    have e1 := (h.block _ hq1).trans k1
    exact ⟨cell_of e0 rfl, cell_of e0 rfl, cell_of e0 rfl, cell_of e0 rfl, cell_of e0 rfl, cell_of e0 rfl, cell_of e0 rfl, cell_of e1 rfl, cell_of e1 rfl, cell_of e1 rfl⟩)
  clear k0 k1 K0 K1 HZ1 hB1
  go_cut [49] (fun a W => a = .bool (!g) ∧ Hid (Below W1.heap.size W1 W))
  case first =>
    refine wp_region_held_drew (S := fun W9 => Below W1.heap.size W1 W9) (by kernel_rfl) (Below.drew (Below.refl _ _)) (fun hHeld => ?_)
    change wpAnyH _ _ _ _ _ 32 #[false, false, false, false, false, false, false, false, false, false, false, false, false, false, false, false, false, false, false, false, false, false, false, false, false, false, false, false, false, false, false, false] _ W1.drew
    refine takeD (i := 0) (d := some 18) (v := ?_) rfl rfl (by kernel_rfl) (by kernel_rfl) (by kernel_rfl) (fun _ _ _ h => h) (Or.inl ⟨by rfl, ?_⟩) hHeld ?_
    rotate_left 1
    focus (intro w hSw; (try dsimp only at hSw); obtain ⟨e0, e1, e2, e3, e4, e5, e6, e7, e8, e9⟩ := HC.out w hSw; go_simp; (try with_reducible rfl))
    (repeat (first | simp only [Act.put] | simp only [List.setIfInBounds_toArray] | simp only [List.set_cons_zero] | simp only [List.set_cons_succ]))
    refine wpAnyH_ready (rs := [1]) (by kernel_rfl) (by simp) ?_
    refine AllReadyH.cons rfl (fun K hK => ?_) AllReadyH.nil
    go_simp
    go_at_call 50
    refine (CH _ (HBL.out _ (by repeat (first | with_reducible exact Below.refl _ _ | with_reducible exact HB9.out | (with_reducible refine Below.drew ?_))))).out.mono ?_
    rintro e w9 ⟨rfl, hb9⟩
    have HBn : Hid (Below W1.heap.size W1 w9) := Lib.hid ((show Below W1.heap.size W1 _ from (by repeat (first | with_reducible exact Below.refl _ _ | with_reducible exact HB9.out | (with_reducible refine Below.drew ?_)))).trans (hb9.mono (show W1.heap.size ≤ _ from (show Below W1.heap.size W1 _ from (by repeat (first | with_reducible exact Below.refl _ _ | with_reducible exact HB9.out | (with_reducible refine Below.drew ?_)))).size)))
    clear hb9
    have HB9 := HBn
    clear HBn
    refine hK.out _ _ ((by repeat (first | with_reducible exact Below.refl _ _ | with_reducible exact HB9.out | (with_reducible refine Below.drew ?_)))) (fun hHeld => ?_)
    clear hK K
    (repeat (first | simp only [Act.put] | simp only [List.setIfInBounds_toArray] | simp only [List.set_cons_zero] | simp only [List.set_cons_succ]))
    cases hs
    · skip
      refine takeD (i := 2) (d := some 20) (v := ?_) rfl rfl (by kernel_rfl) (by kernel_rfl) (by kernel_rfl) (fun _ _ _ h => h) (Or.inl ⟨by rfl, ?_⟩) hHeld ?_
      rotate_left 1
      focus (intro w hSw; (try dsimp only at hSw); go_simp; (try with_reducible rfl))
      (repeat (first | simp only [Act.put] | simp only [List.setIfInBounds_toArray] | simp only [List.set_cons_zero] | simp only [List.set_cons_succ]))
      refine takeD (i := 3) (d := some 21) (v := ?_) rfl rfl (by kernel_rfl) (by kernel_rfl) (by kernel_rfl) (fun _ _ _ h => h) (Or.inl ⟨by rfl, ?_⟩) hHeld ?_
      rotate_left 1
      focus (intro w hSw; (try dsimp only at hSw); go_simp; (try with_reducible rfl))
      (repeat (first | simp only [Act.put] | simp only [List.setIfInBounds_toArray] | simp only [List.set_cons_zero] | simp only [List.set_cons_succ]))
      refine takeD (i := 4) (d := some 22) (v := undef) rfl rfl (by kernel_rfl) (by kernel_rfl) (by kernel_rfl) (fun _ _ _ h => h) (Or.inr ⟨by rfl, rfl⟩) hHeld ?_
      (repeat (first | simp only [Act.put] | simp only [List.setIfInBounds_toArray] | simp only [List.set_cons_zero] | simp only [List.set_cons_succ]))
      refine takeD (i := 5) (d := some 23) (v := undef) rfl rfl (by kernel_rfl) (by kernel_rfl) (by kernel_rfl) (fun _ _ _ h => h) (Or.inr ⟨by rfl, rfl⟩) hHeld ?_
      (repeat (first | simp only [Act.put] | simp only [List.setIfInBounds_toArray] | simp only [List.set_cons_zero] | simp only [List.set_cons_succ]))
      refine takeD (i := 6) (d := some 24) (v := undef) rfl rfl (by kernel_rfl) (by kernel_rfl) (by kernel_rfl) (fun _ _ _ h => h) (Or.inr ⟨by rfl, rfl⟩) hHeld ?_
      (repeat (first | simp only [Act.put] | simp only [List.setIfInBounds_toArray] | simp only [List.set_cons_zero] | simp only [List.set_cons_succ]))
      refine takeD (i := 7) (d := some 25) (v := undef) rfl rfl (by kernel_rfl) (by kernel_rfl) (by kernel_rfl) (fun _ _ _ h => h) (Or.inr ⟨by rfl, rfl⟩) hHeld ?_
      (repeat (first | simp only [Act.put] | simp only [List.setIfInBounds_toArray] | simp only [List.set_cons_zero] | simp only [List.set_cons_succ]))
      refine takeD (i := 8) (d := some 26) (v := undef) rfl rfl (by kernel_rfl) (by kernel_rfl) (by kernel_rfl) (fun _ _ _ h => h) (Or.inr ⟨by rfl, rfl⟩) hHeld ?_
      (repeat (first | simp only [Act.put] | simp only [List.setIfInBounds_toArray] | simp only [List.set_cons_zero] | simp only [List.set_cons_succ]))
      refine takeD (i := 9) (d := some 27) (v := ?_) rfl rfl (by kernel_rfl) (by kernel_rfl) (by kernel_rfl) (fun _ _ _ h => h) (Or.inl ⟨by rfl, ?_⟩) hHeld ?_
      rotate_left 1
      focus (intro w hSw; (try dsimp only at hSw); go_simp; (try with_reducible rfl))
      (repeat (first | simp only [Act.put] | simp only [List.setIfInBounds_toArray] | simp only [List.set_cons_zero] | simp only [List.set_cons_succ]))
      refine takeD (i := 10) (d := some 28) (v := ?_) rfl rfl (by kernel_rfl) (by kernel_rfl) (by kernel_rfl) (fun _ _ _ h => h) (Or.inl ⟨by rfl, ?_⟩) hHeld ?_
      rotate_left 1
      focus (intro w hSw; (try dsimp only at hSw); go_simp; (try with_reducible rfl))
      (repeat (first | simp only [Act.put] | simp only [List.setIfInBounds_toArray] | simp only [List.set_cons_zero] | simp only [List.set_cons_succ]))
      refine takeD (i := 11) (d := some 29) (v := undef) rfl rfl (by kernel_rfl) (by kernel_rfl) (by kernel_rfl) (fun _ _ _ h => h) (Or.inr ⟨by rfl, rfl⟩) hHeld ?_
      (repeat (first | simp only [Act.put] | simp only [List.setIfInBounds_toArray] | simp only [List.set_cons_zero] | simp only [List.set_cons_succ]))
      refine takeD (i := 12) (d := some 30) (v := undef) rfl rfl (by kernel_rfl) (by kernel_rfl) (by kernel_rfl) (fun _ _ _ h => h) (Or.inr ⟨by rfl, rfl⟩) hHeld ?_
      (repeat (first | simp only [Act.put] | simp only [List.setIfInBounds_toArray] | simp only [List.set_cons_zero] | simp only [List.set_cons_succ]))
      refine takeD (i := 13) (d := some 31) (v := undef) rfl rfl (by kernel_rfl) (by kernel_rfl) (by kernel_rfl) (fun _ _ _ h => h) (Or.inr ⟨by rfl, rfl⟩) hHeld ?_
      (repeat (first | simp only [Act.put] | simp only [List.setIfInBounds_toArray] | simp only [List.set_cons_zero] | simp only [List.set_cons_succ]))
      refine takeD (i := 14) (d := some 32) (v := undef) rfl rfl (by kernel_rfl) (by kernel_rfl) (by kernel_rfl) (fun _ _ _ h => h) (Or.inr ⟨by rfl, rfl⟩) hHeld ?_
      (repeat (first | simp only [Act.put] | simp only [List.setIfInBounds_toArray] | simp only [List.set_cons_zero] | simp only [List.set_cons_succ]))
      refine takeD (i := 15) (d := some 33) (v := undef) rfl rfl (by kernel_rfl) (by kernel_rfl) (by kernel_rfl) (fun _ _ _ h => h) (Or.inr ⟨by rfl, rfl⟩) hHeld ?_
      (repeat (first | simp only [Act.put] | simp only [List.setIfInBounds_toArray] | simp only [List.set_cons_zero] | simp only [List.set_cons_succ]))
      refine takeD (i := 16) (d := some 34) (v := ?_) rfl rfl (by kernel_rfl) (by kernel_rfl) (by kernel_rfl) (fun _ _ _ h => h) (Or.inl ⟨by rfl, ?_⟩) hHeld ?_
      rotate_left 1
      focus (intro w hSw; (try dsimp only at hSw); go_simp; (try with_reducible rfl))
      (repeat (first | simp only [Act.put] | simp only [List.setIfInBounds_toArray] | simp only [List.set_cons_zero] | simp only [List.set_cons_succ]))
      refine takeD (i := 17) (d := some 35) (v := ?_) rfl rfl (by kernel_rfl) (by kernel_rfl) (by kernel_rfl) (fun _ _ _ h => h) (Or.inl ⟨by rfl, ?_⟩) hHeld ?_
      rotate_left 1
      focus (intro w hSw; (try dsimp only at hSw); go_simp; (try with_reducible rfl))
      (repeat (first | simp only [Act.put] | simp only [List.setIfInBounds_toArray] | simp only [List.set_cons_zero] | simp only [List.set_cons_succ]))
      refine takeD (i := 18) (d := some 36) (v := undef) rfl rfl (by kernel_rfl) (by kernel_rfl) (by kernel_rfl) (fun _ _ _ h => h) (Or.inr ⟨by rfl, rfl⟩) hHeld ?_
      (repeat (first | simp only [Act.put] | simp only [List.setIfInBounds_toArray] | simp only [List.set_cons_zero] | simp only [List.set_cons_succ]))
      refine takeD (i := 19) (d := some 37) (v := undef) rfl rfl (by kernel_rfl) (by kernel_rfl) (by kernel_rfl) (fun _ _ _ h => h) (Or.inr ⟨by rfl, rfl⟩) hHeld ?_
      (repeat (first | simp only [Act.put] | simp only [List.setIfInBounds_toArray] | simp only [List.set_cons_zero] | simp only [List.set_cons_succ]))
      refine takeD (i := 20) (d := some 38) (v := undef) rfl rfl (by kernel_rfl) (by kernel_rfl) (by kernel_rfl) (fun _ _ _ h => h) (Or.inr ⟨by rfl, rfl⟩) hHeld ?_
      (repeat (first | simp only [Act.put] | simp only [List.setIfInBounds_toArray] | simp only [List.set_cons_zero] | simp only [List.set_cons_succ]))
      refine takeD (i := 21) (d := some 39) (v := undef) rfl rfl (by kernel_rfl) (by kernel_rfl) (by kernel_rfl) (fun _ _ _ h => h) (Or.inr ⟨by rfl, rfl⟩) hHeld ?_
      (repeat (first | simp only [Act.put] | simp only [List.setIfInBounds_toArray] | simp only [List.set_cons_zero] | simp only [List.set_cons_succ]))
      refine takeD (i := 22) (d := some 40) (v := ?_) rfl rfl (by kernel_rfl) (by kernel_rfl) (by kernel_rfl) (fun _ _ _ h => h) (Or.inl ⟨by rfl, ?_⟩) hHeld ?_
      rotate_left 1
      focus (intro w hSw; (try dsimp only at hSw); go_simp; (try with_reducible rfl))
      (repeat (first | simp only [Act.put] | simp only [List.setIfInBounds_toArray] | simp only [List.set_cons_zero] | simp only [List.set_cons_succ]))
      refine takeD (i := 23) (d := some 41) (v := ?_) rfl rfl (by kernel_rfl) (by kernel_rfl) (by kernel_rfl) (fun _ _ _ h => h) (Or.inl ⟨by rfl, ?_⟩) hHeld ?_
      rotate_left 1
      focus (intro w hSw; (try dsimp only at hSw); go_simp; (try with_reducible rfl))
      (repeat (first | simp only [Act.put] | simp only [List.setIfInBounds_toArray] | simp only [List.set_cons_zero] | simp only [List.set_cons_succ]))
      refine takeD (i := 24) (d := some 42) (v := undef) rfl rfl (by kernel_rfl) (by kernel_rfl) (by kernel_rfl) (fun _ _ _ h => h) (Or.inr ⟨by rfl, rfl⟩) hHeld ?_
      (repeat (first | simp only [Act.put] | simp only [List.setIfInBounds_toArray] | simp only [List.set_cons_zero] | simp only [List.set_cons_succ]))
      refine takeD (i := 25) (d := some 43) (v := undef) rfl rfl (by kernel_rfl) (by kernel_rfl) (by kernel_rfl) (fun _ _ _ h => h) (Or.inr ⟨by rfl, rfl⟩) hHeld ?_
      (repeat (first | simp only [Act.put] | simp only [List.setIfInBounds_toArray] | simp only [List.set_cons_zero] | simp only [List.set_cons_succ]))
      refine takeD (i := 26) (d := some 44) (v := undef) rfl rfl (by kernel_rfl) (by kernel_rfl) (by kernel_rfl) (fun _ _ _ h => h) (Or.inr ⟨by rfl, rfl⟩) hHeld ?_
      (repeat (first | simp only [Act.put] | simp only [List.setIfInBounds_toArray] | simp only [List.set_cons_zero] | simp only [List.set_cons_succ]))
      refine takeD (i := 27) (d := some 45) (v := undef) rfl rfl (by kernel_rfl) (by kernel_rfl) (by kernel_rfl) (fun _ _ _ h => h) (Or.inr ⟨by rfl, rfl⟩) hHeld ?_
      (repeat (first | simp only [Act.put] | simp only [List.setIfInBounds_toArray] | simp only [List.set_cons_zero] | simp only [List.set_cons_succ]))
      refine takeD (i := 28) (d := some 46) (v := undef) rfl rfl (by kernel_rfl) (by kernel_rfl) (by kernel_rfl) (fun _ _ _ h => h) (Or.inr ⟨by rfl, rfl⟩) hHeld ?_
      (repeat (first | simp only [Act.put] | simp only [List.setIfInBounds_toArray] | simp only [List.set_cons_zero] | simp only [List.set_cons_succ]))
      refine takeD (i := 29) (d := some 47) (v := undef) rfl rfl (by kernel_rfl) (by kernel_rfl) (by kernel_rfl) (fun _ _ _ h => h) (Or.inr ⟨by rfl, rfl⟩) hHeld ?_
      (repeat (first | simp only [Act.put] | simp only [List.setIfInBounds_toArray] | simp only [List.set_cons_zero] | simp only [List.set_cons_succ]))
      refine takeD (i := 30) (d := some 48) (v := undef) rfl rfl (by kernel_rfl) (by kernel_rfl) (by kernel_rfl) (fun _ _ _ h => h) (Or.inr ⟨by rfl, rfl⟩) hHeld ?_
      (repeat (first | simp only [Act.put] | simp only [List.setIfInBounds_toArray] | simp only [List.set_cons_zero] | simp only [List.set_cons_succ]))
      refine takeD (i := 31) (d := some 49) (v := ?_) rfl rfl (by kernel_rfl) (by kernel_rfl) (by kernel_rfl) (fun _ _ _ h => h) (Or.inl ⟨by rfl, ?_⟩) hHeld ?_
      rotate_left 1
      focus (intro w hSw; (try dsimp only at hSw); go_simp; (try with_reducible rfl))
      (repeat (first | simp only [Act.put] | simp only [List.setIfInBounds_toArray] | simp only [List.set_cons_zero] | simp only [List.set_cons_succ]))
      refine wpAnyH_done (by kernel_rfl) ?_ _
      have hgf : g = false := by rw [HGG.out]; rfl
      go_wp2_with fail
      go_meet
      case rel => exact ⟨by rw [hgf]; rfl, Lib.hid (by repeat (first | with_reducible exact Below.refl _ _ | with_reducible exact HB9.out | (with_reducible refine Below.drew ?_)))⟩
    · skip
      refine takeD (i := 2) (d := some 20) (v := ?_) rfl rfl (by kernel_rfl) (by kernel_rfl) (by kernel_rfl) (fun _ _ _ h => h) (Or.inl ⟨by rfl, ?_⟩) hHeld ?_
      rotate_left 1
      focus (intro w hSw; (try dsimp only at hSw); go_simp; (try with_reducible rfl))
      (repeat (first | simp only [Act.put] | simp only [List.setIfInBounds_toArray] | simp only [List.set_cons_zero] | simp only [List.set_cons_succ]))
      refine takeD (i := 3) (d := some 21) (v := ?_) rfl rfl (by kernel_rfl) (by kernel_rfl) (by kernel_rfl) (fun _ _ _ h => h) (Or.inl ⟨by rfl, ?_⟩) hHeld ?_
      rotate_left 1
      focus (intro w hSw; (try dsimp only at hSw); go_simp; (try with_reducible rfl))
      (repeat (first | simp only [Act.put] | simp only [List.setIfInBounds_toArray] | simp only [List.set_cons_zero] | simp only [List.set_cons_succ]))
      refine takeD (i := 4) (d := some 22) (v := ?_) rfl rfl (by kernel_rfl) (by kernel_rfl) (by kernel_rfl) (fun _ _ _ h => h) (Or.inl ⟨by rfl, ?_⟩) hHeld ?_
      rotate_left 1
      focus (intro w hSw; (try dsimp only at hSw); obtain ⟨e0, e1, e2, e3, e4, e5, e6, e7, e8, e9⟩ := HC.out w hSw; go_simp; (try with_reducible rfl))
      (repeat (first | simp only [Act.put] | simp only [List.setIfInBounds_toArray] | simp only [List.set_cons_zero] | simp only [List.set_cons_succ]))
      refine takeD (i := 5) (d := some 23) (v := ?_) rfl rfl (by kernel_rfl) (by kernel_rfl) (by kernel_rfl) (fun _ _ _ h => h) (Or.inl ⟨by rfl, ?_⟩) hHeld ?_
      rotate_left 1
      focus (intro w hSw; (try dsimp only at hSw); go_simp; (try with_reducible rfl))
      (repeat (first | simp only [Act.put] | simp only [List.setIfInBounds_toArray] | simp only [List.set_cons_zero] | simp only [List.set_cons_succ]))
      refine takeD (i := 6) (d := some 24) (v := ?_) rfl rfl (by kernel_rfl) (by kernel_rfl) (by kernel_rfl) (fun _ _ _ h => h) (Or.inl ⟨by rfl, ?_⟩) hHeld ?_
      rotate_left 1
      focus (intro w hSw; (try dsimp only at hSw); obtain ⟨e0, e1, e2, e3, e4, e5, e6, e7, e8, e9⟩ := HC.out w hSw; go_simp; (try with_reducible rfl))
      (repeat (first | simp only [Act.put] | simp only [List.setIfInBounds_toArray] | simp only [List.set_cons_zero] | simp only [List.set_cons_succ]))
      refine wpAnyH_ready (rs := [7]) (by kernel_rfl) (by simp) ?_
      refine AllReadyH.cons rfl (fun K hK => ?_) AllReadyH.nil
      go_simp
      go_at_call 51
      refine (CF _ (HBL.out _ (by repeat (first | with_reducible exact Below.refl _ _ | with_reducible exact HB9.out | (with_reducible refine Below.drew ?_))))).out.mono ?_
      rintro e w9 ⟨rfl, hb9⟩
      have HBn : Hid (Below W1.heap.size W1 w9) := Lib.hid ((show Below W1.heap.size W1 _ from (by repeat (first | with_reducible exact Below.refl _ _ | with_reducible exact HB9.out | (with_reducible refine Below.drew ?_)))).trans (hb9.mono (show W1.heap.size ≤ _ from (show Below W1.heap.size W1 _ from (by repeat (first | with_reducible exact Below.refl _ _ | with_reducible exact HB9.out | (with_reducible refine Below.drew ?_)))).size)))
      clear hb9
      clear HB9
      have HB9 := HBn
      clear HBn
      refine hK.out _ _ ((by repeat (first | with_reducible exact Below.refl _ _ | with_reducible exact HB9.out | (with_reducible refine Below.drew ?_)))) (fun hHeld => ?_)
      clear hK K
      (repeat (first | simp only [Act.put] | simp only [List.setIfInBounds_toArray] | simp only [List.set_cons_zero] | simp only [List.set_cons_succ]))
      cases s1
      · skip
        refine takeD (i := 8) (d := some 26) (v := ?_) rfl rfl (by kernel_rfl) (by kernel_rfl) (by kernel_rfl) (fun _ _ _ h => h) (Or.inl ⟨by rfl, ?_⟩) hHeld ?_
        rotate_left 1
        focus (intro w hSw; (try dsimp only at hSw); go_simp; (try with_reducible rfl))
        (repeat (first | simp only [Act.put] | simp only [List.setIfInBounds_toArray] | simp only [List.set_cons_zero] | simp only [List.set_cons_succ]))
        refine takeD (i := 9) (d := some 27) (v := ?_) rfl rfl (by kernel_rfl) (by kernel_rfl) (by kernel_rfl) (fun _ _ _ h => h) (Or.inl ⟨by rfl, ?_⟩) hHeld ?_
        rotate_left 1
        focus (intro w hSw; (try dsimp only at hSw); go_simp; (try with_reducible rfl))
        (repeat (first | simp only [Act.put] | simp only [List.setIfInBounds_toArray] | simp only [List.set_cons_zero] | simp only [List.set_cons_succ]))
        refine takeD (i := 10) (d := some 28) (v := ?_) rfl rfl (by kernel_rfl) (by kernel_rfl) (by kernel_rfl) (fun _ _ _ h => h) (Or.inl ⟨by rfl, ?_⟩) hHeld ?_
        rotate_left 1
        focus (intro w hSw; (try dsimp only at hSw); go_simp; (try with_reducible rfl))
        (repeat (first | simp only [Act.put] | simp only [List.setIfInBounds_toArray] | simp only [List.set_cons_zero] | simp only [List.set_cons_succ]))
        refine takeD (i := 11) (d := some 29) (v := undef) rfl rfl (by kernel_rfl) (by kernel_rfl) (by kernel_rfl) (fun _ _ _ h => h) (Or.inr ⟨by rfl, rfl⟩) hHeld ?_
        (repeat (first | simp only [Act.put] | simp only [List.setIfInBounds_toArray] | simp only [List.set_cons_zero] | simp only [List.set_cons_succ]))
        refine takeD (i := 12) (d := some 30) (v := undef) rfl rfl (by kernel_rfl) (by kernel_rfl) (by kernel_rfl) (fun _ _ _ h => h) (Or.inr ⟨by rfl, rfl⟩) hHeld ?_
        (repeat (first | simp only [Act.put] | simp only [List.setIfInBounds_toArray] | simp only [List.set_cons_zero] | simp only [List.set_cons_succ]))
        refine takeD (i := 13) (d := some 31) (v := undef) rfl rfl (by kernel_rfl) (by kernel_rfl) (by kernel_rfl) (fun _ _ _ h => h) (Or.inr ⟨by rfl, rfl⟩) hHeld ?_
        (repeat (first | simp only [Act.put] | simp only [List.setIfInBounds_toArray] | simp only [List.set_cons_zero] | simp only [List.set_cons_succ]))
        refine takeD (i := 14) (d := some 32) (v := undef) rfl rfl (by kernel_rfl) (by kernel_rfl) (by kernel_rfl) (fun _ _ _ h => h) (Or.inr ⟨by rfl, rfl⟩) hHeld ?_
        (repeat (first | simp only [Act.put] | simp only [List.setIfInBounds_toArray] | simp only [List.set_cons_zero] | simp only [List.set_cons_succ]))
        refine takeD (i := 15) (d := some 33) (v := undef) rfl rfl (by kernel_rfl) (by kernel_rfl) (by kernel_rfl) (fun _ _ _ h => h) (Or.inr ⟨by rfl, rfl⟩) hHeld ?_
        (repeat (first | simp only [Act.put] | simp only [List.setIfInBounds_toArray] | simp only [List.set_cons_zero] | simp only [List.set_cons_succ]))
        refine takeD (i := 16) (d := some 34) (v := ?_) rfl rfl (by kernel_rfl) (by kernel_rfl) (by kernel_rfl) (fun _ _ _ h => h) (Or.inl ⟨by rfl, ?_⟩) hHeld ?_
        rotate_left 1
        focus (intro w hSw; (try dsimp only at hSw); go_simp; (try with_reducible rfl))
        (repeat (first | simp only [Act.put] | simp only [List.setIfInBounds_toArray] | simp only [List.set_cons_zero] | simp only [List.set_cons_succ]))
        refine takeD (i := 17) (d := some 35) (v := ?_) rfl rfl (by kernel_rfl) (by kernel_rfl) (by kernel_rfl) (fun _ _ _ h => h) (Or.inl ⟨by rfl, ?_⟩) hHeld ?_
        rotate_left 1
        focus (intro w hSw; (try dsimp only at hSw); go_simp; (try with_reducible rfl))
        (repeat (first | simp only [Act.put] | simp only [List.setIfInBounds_toArray] | simp only [List.set_cons_zero] | simp only [List.set_cons_succ]))
        refine takeD (i := 18) (d := some 36) (v := undef) rfl rfl (by kernel_rfl) (by kernel_rfl) (by kernel_rfl) (fun _ _ _ h => h) (Or.inr ⟨by rfl, rfl⟩) hHeld ?_
        (repeat (first | simp only [Act.put] | simp only [List.setIfInBounds_toArray] | simp only [List.set_cons_zero] | simp only [List.set_cons_succ]))
        refine takeD (i := 19) (d := some 37) (v := undef) rfl rfl (by kernel_rfl) (by kernel_rfl) (by kernel_rfl) (fun _ _ _ h => h) (Or.inr ⟨by rfl, rfl⟩) hHeld ?_
        (repeat (first | simp only [Act.put] | simp only [List.setIfInBounds_toArray] | simp only [List.set_cons_zero] | simp only [List.set_cons_succ]))
        refine takeD (i := 20) (d := some 38) (v := undef) rfl rfl (by kernel_rfl) (by kernel_rfl) (by kernel_rfl) (fun _ _ _ h => h) (Or.inr ⟨by rfl, rfl⟩) hHeld ?_
        (repeat (first | simp only [Act.put] | simp only [List.setIfInBounds_toArray] | simp only [List.set_cons_zero] | simp only [List.set_cons_succ]))
        refine takeD (i := 21) (d := some 39) (v := undef) rfl rfl (by kernel_rfl) (by kernel_rfl) (by kernel_rfl) (fun _ _ _ h => h) (Or.inr ⟨by rfl, rfl⟩) hHeld ?_
        (repeat (first | simp only [Act.put] | simp only [List.setIfInBounds_toArray] | simp only [List.set_cons_zero] | simp only [List.set_cons_succ]))
        refine takeD (i := 22) (d := some 40) (v := ?_) rfl rfl (by kernel_rfl) (by kernel_rfl) (by kernel_rfl) (fun _ _ _ h => h) (Or.inl ⟨by rfl, ?_⟩) hHeld ?_
        rotate_left 1
        focus (intro w hSw; (try dsimp only at hSw); go_simp; (try with_reducible rfl))
        (repeat (first | simp only [Act.put] | simp only [List.setIfInBounds_toArray] | simp only [List.set_cons_zero] | simp only [List.set_cons_succ]))
        refine takeD (i := 23) (d := some 41) (v := ?_) rfl rfl (by kernel_rfl) (by kernel_rfl) (by kernel_rfl) (fun _ _ _ h => h) (Or.inl ⟨by rfl, ?_⟩) hHeld ?_
        rotate_left 1
        focus (intro w hSw; (try dsimp only at hSw); go_simp; (try with_reducible rfl))
        (repeat (first | simp only [Act.put] | simp only [List.setIfInBounds_toArray] | simp only [List.set_cons_zero] | simp only [List.set_cons_succ]))
        refine takeD (i := 24) (d := some 42) (v := undef) rfl rfl (by kernel_rfl) (by kernel_rfl) (by kernel_rfl) (fun _ _ _ h => h) (Or.inr ⟨by rfl, rfl⟩) hHeld ?_
        (repeat (first | simp only [Act.put] | simp only [List.setIfInBounds_toArray] | simp only [List.set_cons_zero] | simp only [List.set_cons_succ]))
        refine takeD (i := 25) (d := some 43) (v := undef) rfl rfl (by kernel_rfl) (by kernel_rfl) (by kernel_rfl) (fun _ _ _ h => h) (Or.inr ⟨by rfl, rfl⟩) hHeld ?_
        (repeat (first | simp only [Act.put] | simp only [List.setIfInBounds_toArray] | simp only [List.set_cons_zero] | simp only [List.set_cons_succ]))
        refine takeD (i := 26) (d := some 44) (v := undef) rfl rfl (by kernel_rfl) (by kernel_rfl) (by kernel_rfl) (fun _ _ _ h => h) (Or.inr ⟨by rfl, rfl⟩) hHeld ?_
        (repeat (first | simp only [Act.put] | simp only [List.setIfInBounds_toArray] | simp only [List.set_cons_zero] | simp only [List.set_cons_succ]))
        refine takeD (i := 27) (d := some 45) (v := undef) rfl rfl (by kernel_rfl) (by kernel_rfl) (by kernel_rfl) (fun _ _ _ h => h) (Or.inr ⟨by rfl, rfl⟩) hHeld ?_
        (repeat (first | simp only [Act.put] | simp only [List.setIfInBounds_toArray] | simp only [List.set_cons_zero] | simp only [List.set_cons_succ]))
        refine takeD (i := 28) (d := some 46) (v := undef) rfl rfl (by kernel_rfl) (by kernel_rfl) (by kernel_rfl) (fun _ _ _ h => h) (Or.inr ⟨by rfl, rfl⟩) hHeld ?_
        (repeat (first | simp only [Act.put] | simp only [List.setIfInBounds_toArray] | simp only [List.set_cons_zero] | simp only [List.set_cons_succ]))
        refine takeD (i := 29) (d := some 47) (v := undef) rfl rfl (by kernel_rfl) (by kernel_rfl) (by kernel_rfl) (fun _ _ _ h => h) (Or.inr ⟨by rfl, rfl⟩) hHeld ?_
        (repeat (first | simp only [Act.put] | simp only [List.setIfInBounds_toArray] | simp only [List.set_cons_zero] | simp only [List.set_cons_succ]))
        refine takeD (i := 30) (d := some 48) (v := undef) rfl rfl (by kernel_rfl) (by kernel_rfl) (by kernel_rfl) (fun _ _ _ h => h) (Or.inr ⟨by rfl, rfl⟩) hHeld ?_
        (repeat (first | simp only [Act.put] | simp only [List.setIfInBounds_toArray] | simp only [List.set_cons_zero] | simp only [List.set_cons_succ]))
        refine takeD (i := 31) (d := some 49) (v := ?_) rfl rfl (by kernel_rfl) (by kernel_rfl) (by kernel_rfl) (fun _ _ _ h => h) (Or.inl ⟨by rfl, ?_⟩) hHeld ?_
        rotate_left 1
        focus (intro w hSw; (try dsimp only at hSw); go_simp; (try with_reducible rfl))
        (repeat (first | simp only [Act.put] | simp only [List.setIfInBounds_toArray] | simp only [List.set_cons_zero] | simp only [List.set_cons_succ]))
        refine wpAnyH_done (by kernel_rfl) ?_ _
        have hgf : g = false := by rw [HGG.out]; rfl
        go_wp2_with fail
        go_meet
        case rel => exact ⟨by rw [hgf]; rfl, Lib.hid (by repeat (first | with_reducible exact Below.refl _ _ | with_reducible exact HB9.out | (with_reducible refine Below.drew ?_)))⟩
      · skip
        refine takeD (i := 8) (d := some 26) (v := ?_) rfl rfl (by kernel_rfl) (by kernel_rfl) (by kernel_rfl) (fun _ _ _ h => h) (Or.inl ⟨by rfl, ?_⟩) hHeld ?_
        rotate_left 1
        focus (intro w hSw; (try dsimp only at hSw); go_simp; (try with_reducible rfl))
        (repeat (first | simp only [Act.put] | simp only [List.setIfInBounds_toArray] | simp only [List.set_cons_zero] | simp only [List.set_cons_succ]))
        refine takeD (i := 9) (d := some 27) (v := ?_) rfl rfl (by kernel_rfl) (by kernel_rfl) (by kernel_rfl) (fun _ _ _ h => h) (Or.inl ⟨by rfl, ?_⟩) hHeld ?_
        rotate_left 1
        focus (intro w hSw; (try dsimp only at hSw); go_simp; (try with_reducible rfl))
        (repeat (first | simp only [Act.put] | simp only [List.setIfInBounds_toArray] | simp only [List.set_cons_zero] | simp only [List.set_cons_succ]))
        refine takeD (i := 10) (d := some 28) (v := ?_) rfl rfl (by kernel_rfl) (by kernel_rfl) (by kernel_rfl) (fun _ _ _ h => h) (Or.inl ⟨by rfl, ?_⟩) hHeld ?_
        rotate_left 1
        focus (intro w hSw; (try dsimp only at hSw); go_simp; (try with_reducible rfl))
        (repeat (first | simp only [Act.put] | simp only [List.setIfInBounds_toArray] | simp only [List.set_cons_zero] | simp only [List.set_cons_succ]))
        refine takeD (i := 11) (d := some 29) (v := ?_) rfl rfl (by kernel_rfl) (by kernel_rfl) (by kernel_rfl) (fun _ _ _ h => h) (Or.inl ⟨by rfl, ?_⟩) hHeld ?_
        rotate_left 1
        focus (intro w hSw; (try dsimp only at hSw); obtain ⟨e0, e1, e2, e3, e4, e5, e6, e7, e8, e9⟩ := HC.out w hSw; go_simp; (try with_reducible rfl))
        (repeat (first | simp only [Act.put] | simp only [List.setIfInBounds_toArray] | simp only [List.set_cons_zero] | simp only [List.set_cons_succ]))
        refine takeD (i := 12) (d := some 30) (v := ?_) rfl rfl (by kernel_rfl) (by kernel_rfl) (by kernel_rfl) (fun _ _ _ h => h) (Or.inl ⟨by rfl, ?_⟩) hHeld ?_
        rotate_left 1
        focus (intro w hSw; (try dsimp only at hSw); go_simp; (try with_reducible rfl))
        (repeat (first | simp only [Act.put] | simp only [List.setIfInBounds_toArray] | simp only [List.set_cons_zero] | simp only [List.set_cons_succ]))
        refine takeD (i := 13) (d := some 31) (v := ?_) rfl rfl (by kernel_rfl) (by kernel_rfl) (by kernel_rfl) (fun _ _ _ h => h) (Or.inl ⟨by rfl, ?_⟩) hHeld ?_
        rotate_left 1
        focus (intro w hSw; (try dsimp only at hSw); obtain ⟨e0, e1, e2, e3, e4, e5, e6, e7, e8, e9⟩ := HC.out w hSw; go_simp; (try with_reducible rfl))
        (repeat (first | simp only [Act.put] | simp only [List.setIfInBounds_toArray] | simp only [List.set_cons_zero] | simp only [List.set_cons_succ]))
        refine wpAnyH_ready (rs := [14]) (by kernel_rfl) (by simp) ?_
        refine AllReadyH.cons rfl (fun K hK => ?_) AllReadyH.nil
        go_simp
        go_at_call 51
        refine (CU _ (HBL.out _ (by repeat (first | with_reducible exact Below.refl _ _ | with_reducible exact HB9.out | (with_reducible refine Below.drew ?_))))).out.mono ?_
        rintro e w9 ⟨rfl, hb9⟩
        have HBn : Hid (Below W1.heap.size W1 w9) := Lib.hid ((show Below W1.heap.size W1 _ from (by repeat (first | with_reducible exact Below.refl _ _ | with_reducible exact HB9.out | (with_reducible refine Below.drew ?_)))).trans (hb9.mono (show W1.heap.size ≤ _ from (show Below W1.heap.size W1 _ from (by repeat (first | with_reducible exact Below.refl _ _ | with_reducible exact HB9.out | (with_reducible refine Below.drew ?_)))).size)))
        clear hb9
        clear HB9
        have HB9 := HBn
        clear HBn
        refine hK.out _ _ ((by repeat (first | with_reducible exact Below.refl _ _ | with_reducible exact HB9.out | (with_reducible refine Below.drew ?_)))) (fun hHeld => ?_)
        clear hK K
        (repeat (first | simp only [Act.put] | simp only [List.setIfInBounds_toArray] | simp only [List.set_cons_zero] | simp only [List.set_cons_succ]))
        cases s2
        · skip
          refine takeD (i := 15) (d := some 33) (v := ?_) rfl rfl (by kernel_rfl) (by kernel_rfl) (by kernel_rfl) (fun _ _ _ h => h) (Or.inl ⟨by rfl, ?_⟩) hHeld ?_
          rotate_left 1
          focus (intro w hSw; (try dsimp only at hSw); go_simp; (try with_reducible rfl))
          (repeat (first | simp only [Act.put] | simp only [List.setIfInBounds_toArray] | simp only [List.set_cons_zero] | simp only [List.set_cons_succ]))
          refine takeD (i := 16) (d := some 34) (v := ?_) rfl rfl (by kernel_rfl) (by kernel_rfl) (by kernel_rfl) (fun _ _ _ h => h) (Or.inl ⟨by rfl, ?_⟩) hHeld ?_
          rotate_left 1
          focus (intro w hSw; (try dsimp only at hSw); go_simp; (try with_reducible rfl))
          (repeat (first | simp only [Act.put] | simp only [List.setIfInBounds_toArray] | simp only [List.set_cons_zero] | simp only [List.set_cons_succ]))
          refine takeD (i := 17) (d := some 35) (v := ?_) rfl rfl (by kernel_rfl) (by kernel_rfl) (by kernel_rfl) (fun _ _ _ h => h) (Or.inl ⟨by rfl, ?_⟩) hHeld ?_
          rotate_left 1
          focus (intro w hSw; (try dsimp only at hSw); go_simp; (try with_reducible rfl))
          (repeat (first | simp only [Act.put] | simp only [List.setIfInBounds_toArray] | simp only [List.set_cons_zero] | simp only [List.set_cons_succ]))
          refine takeD (i := 18) (d := some 36) (v := undef) rfl rfl (by kernel_rfl) (by kernel_rfl) (by kernel_rfl) (fun _ _ _ h => h) (Or.inr ⟨by rfl, rfl⟩) hHeld ?_
          (repeat (first | simp only [Act.put] | simp only [List.setIfInBounds_toArray] | simp only [List.set_cons_zero] | simp only [List.set_cons_succ]))
          refine takeD (i := 19) (d := some 37) (v := undef) rfl rfl (by kernel_rfl) (by kernel_rfl) (by kernel_rfl) (fun _ _ _ h => h) (Or.inr ⟨by rfl, rfl⟩) hHeld ?_
          (repeat (first | simp only [Act.put] | simp only [List.setIfInBounds_toArray] | simp only [List.set_cons_zero] | simp only [List.set_cons_succ]))
          refine takeD (i := 20) (d := some 38) (v := undef) rfl rfl (by kernel_rfl) (by kernel_rfl) (by kernel_rfl) (fun _ _ _ h => h) (Or.inr ⟨by rfl, rfl⟩) hHeld ?_
          (repeat (first | simp only [Act.put] | simp only [List.setIfInBounds_toArray] | simp only [List.set_cons_zero] | simp only [List.set_cons_succ]))
          refine takeD (i := 21) (d := some 39) (v := undef) rfl rfl (by kernel_rfl) (by kernel_rfl) (by kernel_rfl) (fun _ _ _ h => h) (Or.inr ⟨by rfl, rfl⟩) hHeld ?_
          (repeat (first | simp only [Act.put] | simp only [List.setIfInBounds_toArray] | simp only [List.set_cons_zero] | simp only [List.set_cons_succ]))
          refine takeD (i := 22) (d := some 40) (v := ?_) rfl rfl (by kernel_rfl) (by kernel_rfl) (by kernel_rfl) (fun _ _ _ h => h) (Or.inl ⟨by rfl, ?_⟩) hHeld ?_
          rotate_left 1
          focus (intro w hSw; (try dsimp only at hSw); go_simp; (try with_reducible rfl))
          (repeat (first | simp only [Act.put] | simp only [List.setIfInBounds_toArray] | simp only [List.set_cons_zero] | simp only [List.set_cons_succ]))
          refine takeD (i := 23) (d := some 41) (v := ?_) rfl rfl (by kernel_rfl) (by kernel_rfl) (by kernel_rfl) (fun _ _ _ h => h) (Or.inl ⟨by rfl, ?_⟩) hHeld ?_
          rotate_left 1
          focus (intro w hSw; (try dsimp only at hSw); go_simp; (try with_reducible rfl))
          (repeat (first | simp only [Act.put] | simp only [List.setIfInBounds_toArray] | simp only [List.set_cons_zero] | simp only [List.set_cons_succ]))
          refine takeD (i := 24) (d := some 42) (v := undef) rfl rfl (by kernel_rfl) (by kernel_rfl) (by kernel_rfl) (fun _ _ _ h => h) (Or.inr ⟨by rfl, rfl⟩) hHeld ?_
          (repeat (first | simp only [Act.put] | simp only [List.setIfInBounds_toArray] | simp only [List.set_cons_zero] | simp only [List.set_cons_succ]))
          refine takeD (i := 25) (d := some 43) (v := undef) rfl rfl (by kernel_rfl) (by kernel_rfl) (by kernel_rfl) (fun _ _ _ h => h) (Or.inr ⟨by rfl, rfl⟩) hHeld ?_
          (repeat (first | simp only [Act.put] | simp only [List.setIfInBounds_toArray] | simp only [List.set_cons_zero] | simp only [List.set_cons_succ]))
          refine takeD (i := 26) (d := some 44) (v := undef) rfl rfl (by kernel_rfl) (by kernel_rfl) (by kernel_rfl) (fun _ _ _ h => h) (Or.inr ⟨by rfl, rfl⟩) hHeld ?_
          (repeat (first | simp only [Act.put] | simp only [List.setIfInBounds_toArray] | simp only [List.set_cons_zero] | simp only [List.set_cons_succ]))
          refine takeD (i := 27) (d := some 45) (v := undef) rfl rfl (by kernel_rfl) (by kernel_rfl) (by kernel_rfl) (fun _ _ _ h => h) (Or.inr ⟨by rfl, rfl⟩) hHeld ?_
          (repeat (first | simp only [Act.put] | simp only [List.setIfInBounds_toArray] | simp only [List.set_cons_zero] | simp only [List.set_cons_succ]))
          refine takeD (i := 28) (d := some 46) (v := undef) rfl rfl (by kernel_rfl) (by kernel_rfl) (by kernel_rfl) (fun _ _ _ h => h) (Or.inr ⟨by rfl, rfl⟩) hHeld ?_
          (repeat (first | simp only [Act.put] | simp only [List.setIfInBounds_toArray] | simp only [List.set_cons_zero] | simp only [List.set_cons_succ]))
          refine takeD (i := 29) (d := some 47) (v := undef) rfl rfl (by kernel_rfl) (by kernel_rfl) (by kernel_rfl) (fun _ _ _ h => h) (Or.inr ⟨by rfl, rfl⟩) hHeld ?_
          (repeat (first | simp only [Act.put] | simp only [List.setIfInBounds_toArray] | simp only [List.set_cons_zero] | simp only [List.set_cons_succ]))
          refine takeD (i := 30) (d := some 48) (v := undef) rfl rfl (by kernel_rfl) (by kernel_rfl) (by kernel_rfl) (fun _ _ _ h => h) (Or.inr ⟨by rfl, rfl⟩) hHeld ?_
          (repeat (first | simp only [Act.put] | simp only [List.setIfInBounds_toArray] | simp only [List.set_cons_zero] | simp only [List.set_cons_succ]))
          refine takeD (i := 31) (d := some 49) (v := ?_) rfl rfl (by kernel_rfl) (by kernel_rfl) (by kernel_rfl) (fun _ _ _ h => h) (Or.inl ⟨by rfl, ?_⟩) hHeld ?_
          rotate_left 1
          focus (intro w hSw; (try dsimp only at hSw); go_simp; (try with_reducible rfl))
          (repeat (first | simp only [Act.put] | simp only [List.setIfInBounds_toArray] | simp only [List.set_cons_zero] | simp only [List.set_cons_succ]))
          refine wpAnyH_done (by kernel_rfl) ?_ _
          have hgf : g = false := by rw [HGG.out]; rfl
          go_wp2_with fail
          go_meet
          case rel => exact ⟨by rw [hgf]; rfl, Lib.hid (by repeat (first | with_reducible exact Below.refl _ _ | with_reducible exact HB9.out | (with_reducible refine Below.drew ?_)))⟩
        · skip
          refine takeD (i := 15) (d := some 33) (v := ?_) rfl rfl (by kernel_rfl) (by kernel_rfl) (by kernel_rfl) (fun _ _ _ h => h) (Or.inl ⟨by rfl, ?_⟩) hHeld ?_
          rotate_left 1
          focus (intro w hSw; (try dsimp only at hSw); go_simp; (try with_reducible rfl))
          (repeat (first | simp only [Act.put] | simp only [List.setIfInBounds_toArray] | simp only [List.set_cons_zero] | simp only [List.set_cons_succ]))
          refine takeD (i := 16) (d := some 34) (v := ?_) rfl rfl (by kernel_rfl) (by kernel_rfl) (by kernel_rfl) (fun _ _ _ h => h) (Or.inl ⟨by rfl, ?_⟩) hHeld ?_
          rotate_left 1
          focus (intro w hSw; (try dsimp only at hSw); go_simp; (try with_reducible rfl))
          (repeat (first | simp only [Act.put] | simp only [List.setIfInBounds_toArray] | simp only [List.set_cons_zero] | simp only [List.set_cons_succ]))
          refine takeD (i := 17) (d := some 35) (v := ?_) rfl rfl (by kernel_rfl) (by kernel_rfl) (by kernel_rfl) (fun _ _ _ h => h) (Or.inl ⟨by rfl, ?_⟩) hHeld ?_
          rotate_left 1
          focus (intro w hSw; (try dsimp only at hSw); go_simp; (try with_reducible rfl))
          (repeat (first | simp only [Act.put] | simp only [List.setIfInBounds_toArray] | simp only [List.set_cons_zero] | simp only [List.set_cons_succ]))
          refine takeD (i := 18) (d := some 36) (v := ?_) rfl rfl (by kernel_rfl) (by kernel_rfl) (by kernel_rfl) (fun _ _ _ h => h) (Or.inl ⟨by rfl, ?_⟩) hHeld ?_
          rotate_left 1
          focus (intro w hSw; (try dsimp only at hSw); go_simp; (try with_reducible rfl))
          (repeat (first | simp only [Act.put] | simp only [List.setIfInBounds_toArray] | simp only [List.set_cons_zero] | simp only [List.set_cons_succ]))
          refine takeD (i := 19) (d := some 37) (v := ?_) rfl rfl (by kernel_rfl) (by kernel_rfl) (by kernel_rfl) (fun _ _ _ h => h) (Or.inl ⟨by rfl, ?_⟩) hHeld ?_
          rotate_left 1
          focus (intro w hSw; (try dsimp only at hSw); obtain ⟨e0, e1, e2, e3, e4, e5, e6, e7, e8, e9⟩ := HC.out w hSw; go_simp; (try with_reducible rfl))
          (repeat (first | simp only [Act.put] | simp only [List.setIfInBounds_toArray] | simp only [List.set_cons_zero] | simp only [List.set_cons_succ]))
          refine takeD (i := 20) (d := some 38) (v := ?_) rfl rfl (by kernel_rfl) (by kernel_rfl) (by kernel_rfl) (fun _ _ _ h => h) (Or.inl ⟨by rfl, ?_⟩) hHeld ?_
          rotate_left 1
          focus (intro w hSw; (try dsimp only at hSw); go_simp; (try with_reducible rfl))
          (repeat (first | simp only [Act.put] | simp only [List.setIfInBounds_toArray] | simp only [List.set_cons_zero] | simp only [List.set_cons_succ]))
          by_cases hn0 : nu = 0
          · skip
            have hn1 : ((nu : Int) == 0) = true := by rw [beq_iff_eq]; omega
            have hn2 : (nu == 0) = true := by rw [beq_iff_eq]; omega
            have hgf0 := Lib.hid (show g = false by rw [HGG.out, decide_eq_true hn0]; rfl)
            clear hn0
            refine takeD (i := 21) (d := some 39) (v := ?_) rfl rfl (by kernel_rfl) (by kernel_rfl) (by kernel_rfl) (fun _ _ _ h => h) (Or.inl ⟨by rfl, ?_⟩) hHeld ?_
            rotate_left 1
            focus (intro w hSw; (try dsimp only at hSw); go_simp; (try with_reducible rfl))
            (repeat (first | simp only [Act.put] | simp only [List.setIfInBounds_toArray] | simp only [List.set_cons_zero] | simp only [List.set_cons_succ]))
            refine takeD (i := 22) (d := some 40) (v := ?_) rfl rfl (by kernel_rfl) (by kernel_rfl) (by kernel_rfl) (fun _ _ _ h => h) (Or.inl ⟨by rfl, ?_⟩) hHeld ?_
            rotate_left 1
            focus (intro w hSw; (try dsimp only at hSw); go_simp; (try with_reducible rfl))
            (repeat (first | simp only [Act.put] | simp only [List.setIfInBounds_toArray] | simp only [List.set_cons_zero] | simp only [List.set_cons_succ]))
            refine takeD (i := 23) (d := some 41) (v := ?_) rfl rfl (by kernel_rfl) (by kernel_rfl) (by kernel_rfl) (fun _ _ _ h => h) (Or.inl ⟨by rfl, ?_⟩) hHeld ?_
            rotate_left 1
            focus (intro w hSw; (try dsimp only at hSw); go_simp; (try with_reducible rfl))
            (repeat (first | simp only [Act.put] | simp only [List.setIfInBounds_toArray] | simp only [List.set_cons_zero] | simp only [List.set_cons_succ]))
            refine takeD (i := 24) (d := some 42) (v := undef) rfl rfl (by kernel_rfl) (by kernel_rfl) (by kernel_rfl) (fun _ _ _ h => h) (Or.inr ⟨by rfl, rfl⟩) hHeld ?_
            (repeat (first | simp only [Act.put] | simp only [List.setIfInBounds_toArray] | simp only [List.set_cons_zero] | simp only [List.set_cons_succ]))
            refine takeD (i := 25) (d := some 43) (v := undef) rfl rfl (by kernel_rfl) (by kernel_rfl) (by kernel_rfl) (fun _ _ _ h => h) (Or.inr ⟨by rfl, rfl⟩) hHeld ?_
            (repeat (first | simp only [Act.put] | simp only [List.setIfInBounds_toArray] | simp only [List.set_cons_zero] | simp only [List.set_cons_succ]))
            refine takeD (i := 26) (d := some 44) (v := undef) rfl rfl (by kernel_rfl) (by kernel_rfl) (by kernel_rfl) (fun _ _ _ h => h) (Or.inr ⟨by rfl, rfl⟩) hHeld ?_
            (repeat (first | simp only [Act.put] | simp only [List.setIfInBounds_toArray] | simp only [List.set_cons_zero] | simp only [List.set_cons_succ]))
            refine takeD (i := 27) (d := some 45) (v := undef) rfl rfl (by kernel_rfl) (by kernel_rfl) (by kernel_rfl) (fun _ _ _ h => h) (Or.inr ⟨by rfl, rfl⟩) hHeld ?_
            (repeat (first | simp only [Act.put] | simp only [List.setIfInBounds_toArray] | simp only [List.set_cons_zero] | simp only [List.set_cons_succ]))
            refine takeD (i := 28) (d := some 46) (v := undef) rfl rfl (by kernel_rfl) (by kernel_rfl) (by kernel_rfl) (fun _ _ _ h => h) (Or.inr ⟨by rfl, rfl⟩) hHeld ?_
            (repeat (first | simp only [Act.put] | simp only [List.setIfInBounds_toArray] | simp only [List.set_cons_zero] | simp only [List.set_cons_succ]))
            refine takeD (i := 29) (d := some 47) (v := undef) rfl rfl (by kernel_rfl) (by kernel_rfl) (by kernel_rfl) (fun _ _ _ h => h) (Or.inr ⟨by rfl, rfl⟩) hHeld ?_
            (repeat (first | simp only [Act.put] | simp only [List.setIfInBounds_toArray] | simp only [List.set_cons_zero] | simp only [List.set_cons_succ]))
            refine takeD (i := 30) (d := some 48) (v := undef) rfl rfl (by kernel_rfl) (by kernel_rfl) (by kernel_rfl) (fun _ _ _ h => h) (Or.inr ⟨by rfl, rfl⟩) hHeld ?_
            (repeat (first | simp only [Act.put] | simp only [List.setIfInBounds_toArray] | simp only [List.set_cons_zero] | simp only [List.set_cons_succ]))
            refine takeD (i := 31) (d := some 49) (v := ?_) rfl rfl (by kernel_rfl) (by kernel_rfl) (by kernel_rfl) (fun _ _ _ h => h) (Or.inl ⟨by rfl, ?_⟩) hHeld ?_
            rotate_left 1
            focus (intro w hSw; (try dsimp only at hSw); go_simp; (try with_reducible rfl))
            (repeat (first | simp only [Act.put] | simp only [List.setIfInBounds_toArray] | simp only [List.set_cons_zero] | simp only [List.set_cons_succ]))
            refine wpAnyH_done (by kernel_rfl) ?_ _
            have hgf : g = false := by exact hgf0.out
            go_wp2_with fail
            go_meet
            case rel => exact ⟨by rw [hgf]; rfl, Lib.hid (by repeat (first | with_reducible exact Below.refl _ _ | with_reducible exact HB9.out | (with_reducible refine Below.drew ?_)))⟩
          · skip
            have hn1 : ((nu : Int) == 0) = false := by rw [beq_eq_false_iff_ne]; omega
            have hn2 : (nu == 0) = false := by rw [beq_eq_false_iff_ne]; omega
            have HN0 := Lib.hid hn0
            clear hn0
            refine takeD (i := 21) (d := some 39) (v := ?_) rfl rfl (by kernel_rfl) (by kernel_rfl) (by kernel_rfl) (fun _ _ _ h => h) (Or.inl ⟨by rfl, ?_⟩) hHeld ?_
            rotate_left 1
            focus (intro w hSw; (try dsimp only at hSw); go_simp; (try with_reducible rfl))
            (repeat (first | simp only [Act.put] | simp only [List.setIfInBounds_toArray] | simp only [List.set_cons_zero] | simp only [List.set_cons_succ]))
            refine takeD (i := 22) (d := some 40) (v := ?_) rfl rfl (by kernel_rfl) (by kernel_rfl) (by kernel_rfl) (fun _ _ _ h => h) (Or.inl ⟨by rfl, ?_⟩) hHeld ?_
            rotate_left 1
            focus (intro w hSw; (try dsimp only at hSw); go_simp; (try with_reducible rfl))
            (repeat (first | simp only [Act.put] | simp only [List.setIfInBounds_toArray] | simp only [List.set_cons_zero] | simp only [List.set_cons_succ]))
            refine takeD (i := 23) (d := some 41) (v := ?_) rfl rfl (by kernel_rfl) (by kernel_rfl) (by kernel_rfl) (fun _ _ _ h => h) (Or.inl ⟨by rfl, ?_⟩) hHeld ?_
            rotate_left 1
            focus (intro w hSw; (try dsimp only at hSw); go_simp; (try with_reducible rfl))
            (repeat (first | simp only [Act.put] | simp only [List.setIfInBounds_toArray] | simp only [List.set_cons_zero] | simp only [List.set_cons_succ]))
            refine takeD (i := 24) (d := some 42) (v := ?_) rfl rfl (by kernel_rfl) (by kernel_rfl) (by kernel_rfl) (fun _ _ _ h => h) (Or.inl ⟨by rfl, ?_⟩) hHeld ?_
            rotate_left 1
            focus (intro w hSw; (try dsimp only at hSw); go_simp; (try with_reducible rfl))
            (repeat (first | simp only [Act.put] | simp only [List.setIfInBounds_toArray] | simp only [List.set_cons_zero] | simp only [List.set_cons_succ]))
            refine takeD (i := 25) (d := some 43) (v := ?_) rfl rfl (by kernel_rfl) (by kernel_rfl) (by kernel_rfl) (fun _ _ _ h => h) (Or.inl ⟨by rfl, ?_⟩) hHeld ?_
            rotate_left 1
            focus (intro w hSw; (try dsimp only at hSw); obtain ⟨e0, e1, e2, e3, e4, e5, e6, e7, e8, e9⟩ := HC.out w hSw; go_simp; (try with_reducible rfl))
            (repeat (first | simp only [Act.put] | simp only [List.setIfInBounds_toArray] | simp only [List.set_cons_zero] | simp only [List.set_cons_succ]))
            refine takeD (i := 26) (d := some 44) (v := ?_) rfl rfl (by kernel_rfl) (by kernel_rfl) (by kernel_rfl) (fun _ _ _ h => h) (Or.inl ⟨by rfl, ?_⟩) hHeld ?_
            rotate_left 1
            focus (intro w hSw; (try dsimp only at hSw); go_simp; (try with_reducible rfl))
            (repeat (first | simp only [Act.put] | simp only [List.setIfInBounds_toArray] | simp only [List.set_cons_zero] | simp only [List.set_cons_succ]))
            refine takeD (i := 27) (d := some 45) (v := ?_) rfl rfl (by kernel_rfl) (by kernel_rfl) (by kernel_rfl) (fun _ _ _ h => h) (Or.inl ⟨by rfl, ?_⟩) hHeld ?_
            rotate_left 1
            focus (intro w hSw; (try dsimp only at hSw); obtain ⟨e0, e1, e2, e3, e4, e5, e6, e7, e8, e9⟩ := HC.out w hSw; go_simp; (try with_reducible rfl))
            (repeat (first | simp only [Act.put] | simp only [List.setIfInBounds_toArray] | simp only [List.set_cons_zero] | simp only [List.set_cons_succ]))
            refine takeD (i := 28) (d := some 46) (v := ?_) rfl rfl (by kernel_rfl) (by kernel_rfl) (by kernel_rfl) (fun _ _ _ h => h) (Or.inl ⟨by rfl, ?_⟩) hHeld ?_
            rotate_left 1
            focus (intro w hSw; (try dsimp only at hSw); go_simp; (try with_reducible rfl))
            (repeat (first | simp only [Act.put] | simp only [List.setIfInBounds_toArray] | simp only [List.set_cons_zero] | simp only [List.set_cons_succ]))
            refine wpAnyH_ready (rs := [29]) (by kernel_rfl) (by simp) ?_
            refine AllReadyH.cons rfl (fun K hK => ?_) AllReadyH.nil
            go_simp
            go_at_call 52
            refine (CS _ (HBL.out _ (by repeat (first | with_reducible exact Below.refl _ _ | with_reducible exact HB9.out | (with_reducible refine Below.drew ?_))))).out.mono ?_
            rintro e w9 ⟨rfl, hb9⟩
            have HBn : Hid (Below W1.heap.size W1 w9) := Lib.hid ((show Below W1.heap.size W1 _ from (by repeat (first | with_reducible exact Below.refl _ _ | with_reducible exact HB9.out | (with_reducible refine Below.drew ?_)))).trans (hb9.mono (show W1.heap.size ≤ _ from (show Below W1.heap.size W1 _ from (by repeat (first | with_reducible exact Below.refl _ _ | with_reducible exact HB9.out | (with_reducible refine Below.drew ?_)))).size)))
            clear hb9
            clear HB9
            have HB9 := HBn
            clear HBn
            refine hK.out _ _ ((by repeat (first | with_reducible exact Below.refl _ _ | with_reducible exact HB9.out | (with_reducible refine Below.drew ?_)))) (fun hHeld => ?_)
            clear hK K
            (repeat (first | simp only [Act.put] | simp only [List.setIfInBounds_toArray] | simp only [List.set_cons_zero] | simp only [List.set_cons_succ]))
            by_cases hk0 : (nf : Int) = sk
            · skip
              have hk1 : ((nf : Int) != sk) = false := by rw [bne_eq_false_iff_eq]; exact hk0
              have hgf0 := Lib.hid (show g = true by rw [HGG.out, decide_eq_false HN0.out, decide_eq_true hk0]; rfl)
              clear hk0
              refine takeD (i := 30) (d := some 48) (v := ?_) rfl rfl (by kernel_rfl) (by kernel_rfl) (by kernel_rfl) (fun _ _ _ h => h) (Or.inl ⟨by rfl, ?_⟩) hHeld ?_
              rotate_left 1
              focus (intro w hSw; (try dsimp only at hSw); go_simp; (try with_reducible rfl))
              (repeat (first | simp only [Act.put] | simp only [List.setIfInBounds_toArray] | simp only [List.set_cons_zero] | simp only [List.set_cons_succ]))
              refine takeD (i := 31) (d := some 49) (v := ?_) rfl rfl (by kernel_rfl) (by kernel_rfl) (by kernel_rfl) (fun _ _ _ h => h) (Or.inl ⟨by rfl, ?_⟩) hHeld ?_
              rotate_left 1
              focus (intro w hSw; (try dsimp only at hSw); go_simp; (try with_reducible rfl))
              (repeat (first | simp only [Act.put] | simp only [List.setIfInBounds_toArray] | simp only [List.set_cons_zero] | simp only [List.set_cons_succ]))
              refine wpAnyH_done (by kernel_rfl) ?_ _
              have hgf : g = true := by exact hgf0.out
              go_wp2_with fail
              go_meet
              case rel => exact ⟨by rw [hgf]; rfl, Lib.hid (by repeat (first | with_reducible exact Below.refl _ _ | with_reducible exact HB9.out | (with_reducible refine Below.drew ?_)))⟩
            · skip
              have hk1 : ((nf : Int) != sk) = true := by rw [bne_iff_ne]; exact hk0
              have hgf0 := Lib.hid (show g = false by rw [HGG.out, decide_eq_false HN0.out, decide_eq_false hk0]; rfl)
              clear hk0
              refine takeD (i := 30) (d := some 48) (v := ?_) rfl rfl (by kernel_rfl) (by kernel_rfl) (by kernel_rfl) (fun _ _ _ h => h) (Or.inl ⟨by rfl, ?_⟩) hHeld ?_
              rotate_left 1
              focus (intro w hSw; (try dsimp only at hSw); go_simp; (try with_reducible rfl))
              (repeat (first | simp only [Act.put] | simp only [List.setIfInBounds_toArray] | simp only [List.set_cons_zero] | simp only [List.set_cons_succ]))
              refine takeD (i := 31) (d := some 49) (v := ?_) rfl rfl (by kernel_rfl) (by kernel_rfl) (by kernel_rfl) (fun _ _ _ h => h) (Or.inl ⟨by rfl, ?_⟩) hHeld ?_
              rotate_left 1
              focus (intro w hSw; (try dsimp only at hSw); go_simp; (try with_reducible rfl))
              (repeat (first | simp only [Act.put] | simp only [List.setIfInBounds_toArray] | simp only [List.set_cons_zero] | simp only [List.set_cons_succ]))
              refine wpAnyH_done (by kernel_rfl) ?_ _
              have hgf : g = false := by exact hgf0.out
              go_wp2_with fail
              go_meet
              case rel => exact ⟨by rw [hgf]; rfl, Lib.hid (by repeat (first | with_reducible exact Below.refl _ _ | with_reducible exact HB9.out | (with_reducible refine Below.drew ?_)))⟩
  case rest =>
    obtain ⟨rfl, HB⟩ := hcut
    clear CH CF CU CS
    cases g with
    | false =>
      have HQ := Lib.hid (HGN.out rfl)
      go_wp2_with fail
      go_ret
      exact ⟨ret_bool HQ.out.symm, HBL.out _ HB.out⟩
    | true =>
      have HGT := Lib.hid (HGY.out rfl)
      clear HGY HGN HGG
      obtain ⟨pb, po, rfl, hpb, hpc⟩ := HP.out.at_ (HBL.out _ HB.out) hcn
      obtain ⟨e0, e1, e2, e3, e4, e5, e6, e7, e8, e9⟩ := HC.out _ HB.out
      have hlo : lowR q = nthI q.points cb := by unfold lowR; rw [HCB.out]; rfl
      rw [← hlo] at hpc
      obtain ⟨lo, hloE⟩ : ∃ lo, lo = lowR q := ⟨_, rfl⟩
      rw [← hloE] at hpc
      have HLO := Lib.hid hloE
      have hlo9 : -99999 ≤ lo ∧ lo ≤ 99999 := by rw [hloE]; exact low_in HV.out _
      obtain ⟨hlo1, hlo2⟩ := hlo9
      have hH0 : highTo q 0 = lo := by rw [hloE]; rfl
      have HH0 := Lib.hid hH0
      have hcb0 : (0 : Int) ≤ (cb : Int) := by omega
      have hcb1 : (cb : Int) < (q.points.length : Int) := by omega
      clear hlo hloE hH0
      obtain ⟨no, hno⟩ : ∃ no, no = q.opn.length := ⟨_, rfl⟩
      rw [← hno] at hop e4
      have HNO2 := Lib.hid hno
      clear hno
      go_wp2_with fail
      clear e0 e1 e2 e3 e4 e5 e6 e7 e8 e9 hpc
      go_loopw [8, 9, 63] (fun s8 s9 s63 wr => ∃ k : Nat, k ≤ no ∧ s8 = .int .i64 (highTo q k) ∧ s63 = .int .i64 (k : Int) ∧ Hid (wr.ownsRow W1.heap.size 3 1 s9 (gamesTo q certain c.clubs k).length ((gamesTo q certain c.clubs k).map i64v)) ∧ Hid (Below W1.heap.size W1 wr)) (fun _ _ s63 _ => no - (intOf s63).toNat)
      case atStart => exact ⟨0, Nat.zero_le _, by rw [HH0.out], rfl, Lib.hid (own_nil _ _ _ _), HB⟩
      case round =>
        obtain ⟨k, hk, rfl, rfl, HO9, HB9⟩ := hrel
        clear HB
        by_cases hlt : k < no
        · obtain ⟨eb, eo, rfl, heb, hx0, hy0⟩ := HO.out.at_ (HBL.out _ HB9.out) (show k < q.opn.length by rw [← HNO2.out]; exact hlt)
          have hne : nthE q.opn k = q.opn[k]'(by rw [← HNO2.out]; exact hlt) := by unfold nthE; rw [List.getD_eq_getElem?_getD, List.getElem?_eq_getElem, Option.getD_some]
          obtain ⟨⟨x, y⟩, hxy⟩ : ∃ e, e = q.opn[k]'(by rw [← HNO2.out]; exact hlt) := ⟨_, rfl⟩
          rw [← hxy] at hx0 hy0 hne
          dsimp only at hx0 hy0
          have CL := Lib.hid (show ∀ W, Below W1.heap.size W1 W → _ from fun W hB => (CX x W (HBL.out _ hB)).out)
          have CR := Lib.hid (show ∀ W, Below W1.heap.size W1 W → _ from fun W hB => (CX y W (HBL.out _ hB)).out)
          have hhit : hitB q certain c.clubs k = ((c.clubs.contains x && c.clubs.contains y) || (certain && (c.clubs.contains x || c.clubs.contains y))) := by unfold hitB; rw [hne]
          obtain ⟨l, hll⟩ : ∃ l, l = c.clubs.contains x := ⟨_, rfl⟩
          obtain ⟨r, hrr⟩ : ∃ r, r = c.clubs.contains y := ⟨_, rfl⟩
          rw [← hll] at CL hhit
          rw [← hrr] at CR hhit
          have hown : highTo q (k + 1) = if (decide (x = (cb : Int)) || decide (y = (cb : Int))) = true then highTo q k + q.win else highTo q k := by
            rw [← HCB.out]; show (if ownB q k = true then _ else _) = _; unfold ownB; rw [hne]
          have hhi := highTo_in HV.out k
          obtain ⟨hi, hhiE⟩ : ∃ hi, hi = highTo q k := ⟨_, rfl⟩
          rw [← hhiE] at hhi hown ⊢
          obtain ⟨hhi1, hhi2⟩ := hhi
          have hglen := gamesTo_le q certain c.clubs k
          obtain ⟨gl, hgl⟩ : ∃ gl, gl = gamesTo q certain c.clubs k := ⟨_, rfl⟩
          rw [← hgl] at HO9 hglen
          have HGL := Lib.hid hgl
          have HHIT := Lib.hid hhit
          have HOWN := Lib.hid hown
          have hw1 := HV.out.size.d0
          have hw2 := HV.out.size.dw
          have hw3 := HV.out.size.w9
          have hk0 : (0 : Int) ≤ (k : Int) := by omega
          have hk1 : (k : Int) < (no : Int) := by omega
          clear hhiE hgl hhit hown hll hrr hne hxy
          go_upto_region 9 with fail
          refine nameC fun W5 hW5 => ?_
          have hb5 : Below wr.heap.size wr W5 := by rw [hW5.out]; exact (Below.refl _ _).alloc (Nat.le_refl _) _
          have k8 : W5.heap[wr.heap.size]? = some (.cells #[.int .i64 x, .int .i64 y] 53 (0, 0)) := by rw [hW5.out]; exact heap_alloc_new _ _
          have HO5 := Lib.hid (own_belowA HO9.out hb5)
          have HB5 := Lib.hid (HB9.out.trans (hb5.mono HB9.out.size))
          have hg8 : Hid (∀ u9 : Value, ∀ g, wr.ownsRow W1.heap.size 3 1 u9 gl.length (gl.map i64v) → u9.ownBlock = some g → g ≠ wr.heap.size) := Lib.hid fun u9 g h e => by have := (own_lt h g e).2; omega
          have HG8 := Lib.hid (fun g e => hg8.out _ g HO9.out e)
          obtain ⟨b8, hb8⟩ : ∃ b8, b8 = wr.heap.size := ⟨_, rfl⟩
          rw [← hb8] at k8 HG8 ⊢
          have hb8l : b8 < W5.heap.size := lt_heap k8
          have hb8m : W1.heap.size ≤ b8 := by rw [hb8]; exact HB9.out.size
          have hx1 := cell_of (j := 0) k8 rfl
          have hy1 := cell_of (j := 1) k8 rfl
          have K8 := Lib.hid k8
          clear hW5 hb5 k8 hb8 HO9 HB9 hx0 hy0 hg8
          obtain ⟨e0, e1, e2, e3, e4, e5, e6, e7, e8, e9⟩ := HC.out _ HB5.out
          go_quiet ((go_at_call 53; first | with_reducible exact Calls.quiet_of_same (CL.out _ (bDrewN HB5.out _)) | with_reducible exact Calls.quiet_of_same (CR.out _ (bDrewN HB5.out _))))
          go_upto_region 10 with fail
          refine nameC fun W6 hW6 => ?_
          have HO6 := Lib.hid (own_belowA HO5.out (show Below W5.heap.size W5 W6 by rw [hW6.out]; exact bDrewN (Below.refl _ _) _))
          have HB6 := Lib.hid (show Below W1.heap.size W1 W6 by rw [hW6.out]; exact bDrewN HB5.out _)
          have K6 := Lib.hid (show W6.heap[b8]? = some (.cells #[.int .i64 x, .int .i64 y] 53 (0, 0)) by rw [hW6.out]; exact K8.out)
          clear e0 e1 e2 e3 e4 e5 e6 e7 e8 e9 hx1 hy1 CL CR HO5 HB5 K8 hW6 hb8l
          obtain ⟨ht, hht⟩ : ∃ ht, ht = hitB q certain c.clubs k := ⟨_, rfl⟩
          have HHT := Lib.hid hht
          rw [← hht] at HHIT
          clear hht
          go_cut [90] (fun v W => v = .bool ht ∧ W6 = W)
          case first =>
            cases l
            · skip
              cases r
              · skip
                cases certain
                · have HQ := Lib.hid (show ht = false from HHIT.out)
                  go_wp2_with fail
                  go_meet
                  case rel => exact ⟨by rw [HQ.out], rfl⟩
                · have HQ := Lib.hid (show ht = false from HHIT.out)
                  go_wp2_with fail
                  go_meet
                  case rel => exact ⟨by rw [HQ.out], rfl⟩
              · skip
                cases certain
                · have HQ := Lib.hid (show ht = false from HHIT.out)
                  go_wp2_with fail
                  go_meet
                  case rel => exact ⟨by rw [HQ.out], rfl⟩
                · have HQ := Lib.hid (show ht = true from HHIT.out)
                  go_wp2_with fail
                  go_meet
                  case rel => exact ⟨by rw [HQ.out], rfl⟩
            · skip
              cases r
              · skip
                cases certain
                · have HQ := Lib.hid (show ht = false from HHIT.out)
                  go_wp2_with fail
                  go_meet
                  case rel => exact ⟨by rw [HQ.out], rfl⟩
                · have HQ := Lib.hid (show ht = true from HHIT.out)
                  go_wp2_with fail
                  go_meet
                  case rel => exact ⟨by rw [HQ.out], rfl⟩
              · skip
                cases certain
                · have HQ := Lib.hid (show ht = true from HHIT.out)
                  go_wp2_with fail
                  go_meet
                  case rel => exact ⟨by rw [HQ.out], rfl⟩
                · have HQ := Lib.hid (show ht = true from HHIT.out)
                  go_wp2_with fail
                  go_meet
                  case rel => exact ⟨by rw [HQ.out], rfl⟩
          case rest =>
            obtain ⟨rfl, rfl⟩ := hcut
            clear HHIT
            by_cases hxc : x = (cb : Int)
            · have hx2 : (x == (cb : Int)) = true := by rw [beq_iff_eq]; exact hxc
              have HN := Lib.hid (show highTo q (k + 1) = hi + q.win by rw [HOWN.out, decide_eq_true hxc, Bool.true_or, if_pos rfl])
              clear hxc
              cases ht
              · skip
                have HGN2 := Lib.hid (show gamesTo q certain c.clubs (k + 1) = gl by rw [gamesTo_no HHT.out.symm, ← HGL.out])
                have HB7 := HB6
                have HO7 := HO6
                have hx1 := cell_of (j := 0) K6.out rfl
                have hy1 := cell_of (j := 1) K6.out rfl
                obtain ⟨e0, e1, e2, e3, e4, e5, e6, e7, e8, e9⟩ := HC.out _ HB7.out
                clear HB6 HO6 K6
                go_wp2_with fail
                go_roundw
                case rel => exact ⟨k + 1, by omega, by rw [HN.out], by go_num, Lib.hid (by rw [HGN2.out]; exact HO7.out), HB7⟩
                case measure => simp [intOf]; omega
              · skip
                have HGN2 := Lib.hid (show gamesTo q certain c.clubs (k + 1) = gl ++ [(k : Int)] by rw [gamesTo_yes HHT.out.symm, ← HGL.out])
                go_wp2_with (at_builtin; refine wpList_int1 rfl (.tmp 91) (.tmp 93) rfl W1.heap.size gl (k : Int) rfl (HO6.out.alloc _) rfl (heap_alloc_new _ _) (by omega) (by have := HB6.out.size; simp; omega) ?_; intro A7 d7 w7 H7; have k7 : w7.heap[b8]? = some (.cells #[.int .i64 x, .int .i64 y] 53 (0, 0)) := (H7.out.2.2 b8 (by have := lt_heap K6.out; simp; omega) (fun e => HG8.out _ e rfl)).trans ((by rw [heap_alloc_if, if_neg (by have := lt_heap K6.out; omega)]; exact K6.out)); have HB7 := Lib.hid ((HB6.out.alloc HB6.out.size _).trans H7.out.2.1); have HO7 := Lib.hid H7.out.1; have hx1 := cell_of (j := 0) k7 rfl; have hy1 := cell_of (j := 1) k7 rfl; obtain ⟨e0, e1, e2, e3, e4, e5, e6, e7, e8, e9⟩ := HC.out _ HB7.out; clear H7 HB6 HO6 K6 k7; (repeat (first | simp only [Act.put] | simp only [List.setIfInBounds_toArray] | simp only [List.set_cons_zero] | simp only [List.set_cons_succ])))
                go_roundw
                case rel => exact ⟨k + 1, by omega, by rw [HN.out], by go_num, Lib.hid (by rw [HGN2.out]; exact HO7.out), HB7⟩
                case measure => simp [intOf]; omega
            · have hx2 : (x == (cb : Int)) = false := by rw [beq_eq_false_iff_ne]; exact hxc
              by_cases hyc : y = (cb : Int)
              · have hy2 : (y == (cb : Int)) = true := by rw [beq_iff_eq]; exact hyc
                have HN := Lib.hid (show highTo q (k + 1) = hi + q.win by rw [HOWN.out, decide_eq_true hyc, Bool.or_true, if_pos rfl])
                clear hxc hyc
                cases ht
                · skip
                  have HGN2 := Lib.hid (show gamesTo q certain c.clubs (k + 1) = gl by rw [gamesTo_no HHT.out.symm, ← HGL.out])
                  have HB7 := HB6
                  have HO7 := HO6
                  have hx1 := cell_of (j := 0) K6.out rfl
                  have hy1 := cell_of (j := 1) K6.out rfl
                  obtain ⟨e0, e1, e2, e3, e4, e5, e6, e7, e8, e9⟩ := HC.out _ HB7.out
                  clear HB6 HO6 K6
                  go_wp2_with fail
                  go_roundw
                  case rel => exact ⟨k + 1, by omega, by rw [HN.out], by go_num, Lib.hid (by rw [HGN2.out]; exact HO7.out), HB7⟩
                  case measure => simp [intOf]; omega
                · skip
                  have HGN2 := Lib.hid (show gamesTo q certain c.clubs (k + 1) = gl ++ [(k : Int)] by rw [gamesTo_yes HHT.out.symm, ← HGL.out])
                  go_wp2_with (at_builtin; refine wpList_int1 rfl (.tmp 91) (.tmp 93) rfl W1.heap.size gl (k : Int) rfl (HO6.out.alloc _) rfl (heap_alloc_new _ _) (by omega) (by have := HB6.out.size; simp; omega) ?_; intro A7 d7 w7 H7; have k7 : w7.heap[b8]? = some (.cells #[.int .i64 x, .int .i64 y] 53 (0, 0)) := (H7.out.2.2 b8 (by have := lt_heap K6.out; simp; omega) (fun e => HG8.out _ e rfl)).trans ((by rw [heap_alloc_if, if_neg (by have := lt_heap K6.out; omega)]; exact K6.out)); have HB7 := Lib.hid ((HB6.out.alloc HB6.out.size _).trans H7.out.2.1); have HO7 := Lib.hid H7.out.1; have hx1 := cell_of (j := 0) k7 rfl; have hy1 := cell_of (j := 1) k7 rfl; obtain ⟨e0, e1, e2, e3, e4, e5, e6, e7, e8, e9⟩ := HC.out _ HB7.out; clear H7 HB6 HO6 K6 k7; (repeat (first | simp only [Act.put] | simp only [List.setIfInBounds_toArray] | simp only [List.set_cons_zero] | simp only [List.set_cons_succ])))
                  go_roundw
                  case rel => exact ⟨k + 1, by omega, by rw [HN.out], by go_num, Lib.hid (by rw [HGN2.out]; exact HO7.out), HB7⟩
                  case measure => simp [intOf]; omega
              · have hy2 : (y == (cb : Int)) = false := by rw [beq_eq_false_iff_ne]; exact hyc
                have HN := Lib.hid (show highTo q (k + 1) = hi by rw [HOWN.out, decide_eq_false hxc, decide_eq_false hyc]; rfl)
                clear hxc hyc
                cases ht
                · skip
                  have HGN2 := Lib.hid (show gamesTo q certain c.clubs (k + 1) = gl by rw [gamesTo_no HHT.out.symm, ← HGL.out])
                  have HB7 := HB6
                  have HO7 := HO6
                  have hx1 := cell_of (j := 0) K6.out rfl
                  have hy1 := cell_of (j := 1) K6.out rfl
                  obtain ⟨e0, e1, e2, e3, e4, e5, e6, e7, e8, e9⟩ := HC.out _ HB7.out
                  clear HB6 HO6 K6
                  go_wp2_with fail
                  go_roundw
                  case rel => exact ⟨k + 1, by omega, by rw [HN.out], by go_num, Lib.hid (by rw [HGN2.out]; exact HO7.out), HB7⟩
                  case measure => simp [intOf]; omega
                · skip
                  have HGN2 := Lib.hid (show gamesTo q certain c.clubs (k + 1) = gl ++ [(k : Int)] by rw [gamesTo_yes HHT.out.symm, ← HGL.out])
                  go_wp2_with (at_builtin; refine wpList_int1 rfl (.tmp 91) (.tmp 93) rfl W1.heap.size gl (k : Int) rfl (HO6.out.alloc _) rfl (heap_alloc_new _ _) (by omega) (by have := HB6.out.size; simp; omega) ?_; intro A7 d7 w7 H7; have k7 : w7.heap[b8]? = some (.cells #[.int .i64 x, .int .i64 y] 53 (0, 0)) := (H7.out.2.2 b8 (by have := lt_heap K6.out; simp; omega) (fun e => HG8.out _ e rfl)).trans ((by rw [heap_alloc_if, if_neg (by have := lt_heap K6.out; omega)]; exact K6.out)); have HB7 := Lib.hid ((HB6.out.alloc HB6.out.size _).trans H7.out.2.1); have HO7 := Lib.hid H7.out.1; have hx1 := cell_of (j := 0) k7 rfl; have hy1 := cell_of (j := 1) k7 rfl; obtain ⟨e0, e1, e2, e3, e4, e5, e6, e7, e8, e9⟩ := HC.out _ HB7.out; clear H7 HB6 HO6 K6 k7; (repeat (first | simp only [Act.put] | simp only [List.setIfInBounds_toArray] | simp only [List.set_cons_zero] | simp only [List.set_cons_succ])))
                  go_roundw
                  case rel => exact ⟨k + 1, by omega, by rw [HN.out], by go_num, Lib.hid (by rw [HGN2.out]; exact HO7.out), HB7⟩
                  case measure => simp [intOf]; omega
        · have hnl : ¬ (k : Int) < (no : Int) := by omega
          obtain rfl : k = no := by omega
          rename World => w9
          have hhi := highTo_in HV.out k
          obtain ⟨hi, hhiE⟩ : ∃ hi, hi = highTo q k := ⟨_, rfl⟩
          rw [← hhiE] at hhi ⊢
          obtain ⟨hhi1, hhi2⟩ := hhi
          have HHI := Lib.hid (show hi = highR q by rw [hhiE, HNO2.out]; rfl)
          have hglen := gamesTo_le q certain c.clubs k
          obtain ⟨gl, hgl⟩ : ∃ gl, gl = gamesTo q certain c.clubs k := ⟨_, rfl⟩
          rw [← hgl] at HO9 hglen
          have HGL := Lib.hid (show gl = gamesTo q certain c.clubs q.opn.length by rw [hgl, HNO2.out])
          obtain ⟨A9, d9, rfl⟩ := own_sl HO9.out
          have HGM := Lib.hid (IsInts.ofOwn HO9.out)
          have HST := Lib.hid HGT.out.2.2.1
          have hd1 : 1 ≤ q.draw := by have := HGT.out.1; unfold halvesB at this; simp only [Bool.and_eq_true, decide_eq_true_eq] at this; omega
          have hnu24 : nu ≤ 24 := by have := set_len HST.out; have := HV.out.size.n24; rw [HNU.out]; omega
          have CE := fun (W : World) (hB : Below w9.heap.size w9 W) => Lib.hid (equal_any W _ M' _ _ gl c.games (IsSl.below HGM.out hB) (IsSl.below HG.out (HBL.out _ (HB9.out.trans (hB.mono HB9.out.size)))) (by omega))
          clear hhiE hgl HO9
          obtain ⟨gn, hgn⟩ : ∃ gn, gn = gl.length := ⟨_, rfl⟩
          rw [← hgn] at CE hglen HGM ⊢
          have HGNL := Lib.hid hgn
          clear hgn
          obtain ⟨e0, e1, e2, e3, e4, e5, e6, e7, e8, e9⟩ := HC.out _ HB9.out
          go_wp2_with fail
          clear e0 e1 e2 e3 e4 e5 e6 e7 e8 e9 CX HO HGM
          go_loopw [14, 118] (fun s14 s118 wr => ∃ j : Nat, j ≤ nu ∧ s14 = .int .i64 (sumTo q certain c.clubs j) ∧ s118 = .int .i64 (j : Int) ∧ Hid (sideTo c.free certain c.clubs j) ∧ Hid (Below w9.heap.size w9 wr)) (fun _ s118 _ => nu - (intOf s118).toNat)
          case atStart => exact ⟨0, Nat.zero_le _, rfl, rfl, Lib.hid sideTo_zero, Lib.hid (Below.refl _ _)⟩
          case round =>
            obtain ⟨j, hj, rfl, rfl, HS, HB2⟩ := hrel
            have hsum := sumTo_in HV.out (show 0 < q.draw by omega) certain c.clubs j
            obtain ⟨sm, hsm⟩ : ∃ sm, sm = sumTo q certain c.clubs j := ⟨_, rfl⟩
            have HSM := Lib.hid hsm
            rw [← hsm] at hsum ⊢
            clear hsm
            have hsm1 : -24000000 ≤ sm := by omega
            have hsm2 : sm ≤ 24000000 := by omega
            clear hsum
            have HBW := Lib.hid (HB9.out.trans (HB2.out.mono HB9.out.size))
            obtain ⟨e0, e1, e2, e3, e4, e5, e6, e7, e8, e9⟩ := HC.out _ HBW.out
            by_cases hlt : j < nu
            · obtain ⟨ub, uo, rfl, hub, hux⟩ := HU.out.at_ (HBL.out _ HBW.out) (show j < c.clubs.length by rw [← HNU.out]; exact hlt)
              have hok := set_ok HST.out (show j < c.clubs.length by rw [← HNU.out]; exact hlt)
              obtain ⟨xi, hxi⟩ : ∃ xi : Nat, nthI c.clubs j = (xi : Int) := ⟨(nthI c.clubs j).toNat, by have := hok.1; omega⟩
              have hxn : xi < q.points.length := by have := hok.2.1; have := HV.out.size.pts; omega
              obtain ⟨pb2, po2, e, -, hpx⟩ := HP.out.at_ (HBL.out _ HBW.out) hxn
              injection e with e
              injection e with e e'
              subst e e'
              rw [hxi] at hux
              have HXI := Lib.hid hxi
              have hpi := low_in HV.out xi
              have hroom : countR q certain (xi : Int) = if certain then max 0 (-((nthI q.points xi - lo) / q.draw)) else -((hi - nthI q.points xi) / q.draw) := by
                rw [HLO.out, HHI.out]; rfl
              obtain ⟨pv, hpv⟩ : ∃ pv, pv = nthI q.points xi := ⟨_, rfl⟩
              rw [← hpv] at hpx hpi hroom
              obtain ⟨hpi1, hpi2⟩ := hpi
              have CYx := fun (W : World) (hB : Below W1.heap.size W1 W) => Lib.hid (CY (xi : Int) W (HBL.out _ hB)).out
              obtain ⟨f, hf⟩ : ∃ f, f = c.free.contains (xi : Int) := ⟨_, rfl⟩
              rw [← hf] at CYx
              have HFX := Lib.hid hf
              have HROOM := Lib.hid hroom
              have CL1 := Lib.hid (show ∀ W : World, Calls Try.prog 54 #[.int .i64 (pv - lo), .int .i64 q.draw] W (fun e w' => e = .returned (.int .i64 ((pv - lo) / q.draw)) ∧ w' = W) from fun W => (floor_any W (pv - lo) q.draw ⟨hd1, hd9⟩ ⟨by omega, by omega⟩).mono fun _ _ h => ⟨h.1, h.2.symm⟩)
              have CL2 := Lib.hid (show ∀ W : World, Calls Try.prog 54 #[.int .i64 (hi - pv), .int .i64 q.draw] W (fun e w' => e = .returned (.int .i64 ((hi - pv) / q.draw)) ∧ w' = W) from fun W => (floor_any W (hi - pv) q.draw ⟨hd1, hd9⟩ ⟨by omega, by omega⟩).mono fun _ _ h => ⟨h.1, h.2.symm⟩)
              have hd3 := div_in (a := pv - lo) (b := q.draw) (by omega) (m := 200000) (by omega) (by omega)
              have hd4 := div_in (a := hi - pv) (b := q.draw) (by omega) (m := 900000) (by omega) (by omega)
              obtain ⟨f1, hf1⟩ : ∃ f1, f1 = (pv - lo) / q.draw := ⟨_, rfl⟩
              obtain ⟨f2, hf2⟩ : ∃ f2, f2 = (hi - pv) / q.draw := ⟨_, rfl⟩
              rw [← hf1] at CL1 hd3 HROOM
              rw [← hf2] at CL2 hd4 HROOM
              obtain ⟨hd31, hd32⟩ := hd3
              obtain ⟨hd41, hd42⟩ := hd4
              have hj0 : (0 : Int) ≤ (j : Int) := by omega
              have hj1 : (j : Int) < (nu : Int) := by omega
              have hx0 : (0 : Int) ≤ (xi : Int) := by omega
              have hx1 : (xi : Int) < (q.points.length : Int) := by omega
              clear hf1 hf2 hf hpv hroom hxi hok
              go_wp2_with fail
              refine (CYx _ HBW.out).out.mono ?_
              rintro e w2 ⟨rfl, rfl⟩
              clear CYx
              by_cases hfc : f = certain
              · have hfc2 : (f == certain) = true := by rw [beq_iff_eq]; exact hfc
                have HS2 := Lib.hid (sideTo_succ HS.out (by rw [HXI.out, ← HFX.out]; exact hfc))
                have HSM2 := Lib.hid (show sumTo q certain c.clubs (j + 1) = sm + countR q certain (xi : Int) by unfold sumTo; rw [← HSM.out, HXI.out])
                clear HFX
                subst hfc
                cases f
                · go_wp2_with fail
                  go_quiet ((go_at_call 54; exact Calls.quiet_of_same (CL2.out _)))
                  go_wp2_with fail
                  go_roundw
                  case rel => exact ⟨j + 1, by omega, by rw [HSM2.out, HROOM.out]; rfl, by go_num, HS2, Lib.hid (bDrewN HB2.out _)⟩
                  case measure => simp [intOf]; omega
                · go_wp2_with fail
                  go_quiet ((go_at_call 54; exact Calls.quiet_of_same (CL1.out _)))
                  go_wp2_with fail
                  go_roundw
                  case rel => exact ⟨j + 1, by omega, by rw [HSM2.out, HROOM.out]; congr 1; simp only [if_true]; split <;> omega, by go_num, HS2, Lib.hid (bDrewN HB2.out _)⟩
                  case measure => simp [intOf]; omega
              · have hfc2 : (f == certain) = false := by rw [beq_eq_false_iff_ne]; exact hfc
                have HQ := Lib.hid (HNO.out fun h => hfc (by rw [HFX.out, ← HXI.out]; exact h.side j (by rw [← HNU.out]; exact hlt)))
                cases f <;> cases certain
                · exact absurd rfl hfc
                · clear hfc hfc2
                  go_wp2_with fail
                  go_ret
                  exact ⟨ret_bool HQ.out.symm, HBL.out _ HBW.out⟩
                · clear hfc hfc2
                  go_wp2_with fail
                  go_ret
                  exact ⟨ret_bool HQ.out.symm, HBL.out _ HBW.out⟩
                · exact absurd rfl hfc
            · have hnl : ¬ (j : Int) < (nu : Int) := by omega
              obtain rfl : j = nu := by omega
              have HSM2 := Lib.hid (show sm = sumTo q certain c.clubs c.clubs.length by rw [HSM.out, HNU.out])
              have HS2 := Lib.hid (show sideTo c.free certain c.clubs c.clubs.length by rw [← HNU.out]; exact HS.out)
              have HGLL := Lib.hid (show (gn : Int) = ((gamesTo q certain c.clubs q.opn.length).length : Int) by rw [HGNL.out, HGL.out])
              clear CY HSM HS
              cases certain
              · skip
                have HOV := Lib.hid (show overB q false c.clubs = decide (0 < sm + 2 * (gn : Int)) by unfold overB; rw [← HGLL.out, ← HSM2.out]; simp)
                have HALL := Lib.hid (show 0 < sm + 2 * (gn : Int) → gl = c.games → z = true from fun h1 h2 => HYES.out ⟨HGT.out.1, HGT.out.2.1, HGT.out.2.2.1, HGT.out.2.2.2.1, HGT.out.2.2.2.2, HS2.out, by rw [← HGL.out]; exact h2, by rw [HOV.out]; exact decide_eq_true h1⟩)
                have HN1 := Lib.hid (show ¬ gl = c.games → z = false from fun h => HNO.out fun hf => h (by rw [HGL.out]; exact hf.games))
                have HN2 := Lib.hid (show ¬ 0 < sm + 2 * (gn : Int) → z = false from fun h => HNO.out fun hf => h (by have := hf.over; rw [HOV.out, decide_eq_true_eq] at this; exact this))
                clear HYES HNO HOV
                by_cases ht : 0 < sm + 2 * (gn : Int)
                · have dt : decide (0 < sm + 2 * (gn : Int)) = true := by rw [decide_eq_true_eq]; exact ht
                  have HT := Lib.hid ht
                  clear ht
                  go_wp2_with fail
                  refine (CE _ HB2.out).out.mono ?_
                  rintro e w2 ⟨rfl, hb⟩
                  have HBe := Lib.hid (HBL.out _ (HBW.out.trans (hb.mono HBW.out.size)))
                  clear hb
                  by_cases hge : gl = c.games
                  · have hge2 : (gl == c.games) = true := by rw [beq_iff_eq]; exact hge
                    have HQ := Lib.hid (show z = true from HALL.out HT.out hge)
                    rw [hge2]
                    clear hge hge2
                    go_wp2_with fail
                    go_ret
                    exact ⟨ret_bool HQ.out.symm, HBe.out⟩
                  · have hge2 : (gl == c.games) = false := by rw [beq_eq_false_iff_ne]; exact hge
                    have HQ := Lib.hid (show z = false from HN1.out hge)
                    rw [hge2]
                    clear hge hge2
                    go_wp2_with fail
                    go_ret
                    exact ⟨ret_bool HQ.out.symm, HBe.out⟩
                · have dt : decide (0 < sm + 2 * (gn : Int)) = false := by rw [decide_eq_false_iff_not]; exact ht
                  have HT := Lib.hid ht
                  clear ht
                  go_wp2_with fail
                  refine (CE _ HB2.out).out.mono ?_
                  rintro e w2 ⟨rfl, hb⟩
                  have HBe := Lib.hid (HBL.out _ (HBW.out.trans (hb.mono HBW.out.size)))
                  clear hb
                  by_cases hge : gl = c.games
                  · have hge2 : (gl == c.games) = true := by rw [beq_iff_eq]; exact hge
                    have HQ := Lib.hid (show z = false from HN2.out HT.out)
                    rw [hge2]
                    clear hge hge2
                    go_wp2_with fail
                    go_ret
                    exact ⟨ret_bool HQ.out.symm, HBe.out⟩
                  · have hge2 : (gl == c.games) = false := by rw [beq_eq_false_iff_ne]; exact hge
                    have HQ := Lib.hid (show z = false from HN1.out hge)
                    rw [hge2]
                    clear hge hge2
                    go_wp2_with fail
                    go_ret
                    exact ⟨ret_bool HQ.out.symm, HBe.out⟩
              · skip
                have HOV := Lib.hid (show overB q true c.clubs = decide ((2 * (gn : Int)) < sm) by unfold overB; rw [← HGLL.out, ← HSM2.out]; simp)
                have HALL := Lib.hid (show (2 * (gn : Int)) < sm → gl = c.games → z = true from fun h1 h2 => HYES.out ⟨HGT.out.1, HGT.out.2.1, HGT.out.2.2.1, HGT.out.2.2.2.1, HGT.out.2.2.2.2, HS2.out, by rw [← HGL.out]; exact h2, by rw [HOV.out]; exact decide_eq_true h1⟩)
                have HN1 := Lib.hid (show ¬ gl = c.games → z = false from fun h => HNO.out fun hf => h (by rw [HGL.out]; exact hf.games))
                have HN2 := Lib.hid (show ¬ (2 * (gn : Int)) < sm → z = false from fun h => HNO.out fun hf => h (by have := hf.over; rw [HOV.out, decide_eq_true_eq] at this; exact this))
                clear HYES HNO HOV
                by_cases ht : (2 * (gn : Int)) < sm
                · have dt : decide ((2 * (gn : Int)) < sm) = true := by rw [decide_eq_true_eq]; exact ht
                  have HT := Lib.hid ht
                  clear ht
                  go_wp2_with fail
                  refine (CE _ HB2.out).out.mono ?_
                  rintro e w2 ⟨rfl, hb⟩
                  have HBe := Lib.hid (HBL.out _ (HBW.out.trans (hb.mono HBW.out.size)))
                  clear hb
                  by_cases hge : gl = c.games
                  · have hge2 : (gl == c.games) = true := by rw [beq_iff_eq]; exact hge
                    have HQ := Lib.hid (show z = true from HALL.out HT.out hge)
                    rw [hge2]
                    clear hge hge2
                    go_wp2_with fail
                    go_ret
                    exact ⟨ret_bool HQ.out.symm, HBe.out⟩
                  · have hge2 : (gl == c.games) = false := by rw [beq_eq_false_iff_ne]; exact hge
                    have HQ := Lib.hid (show z = false from HN1.out hge)
                    rw [hge2]
                    clear hge hge2
                    go_wp2_with fail
                    go_ret
                    exact ⟨ret_bool HQ.out.symm, HBe.out⟩
                · have dt : decide ((2 * (gn : Int)) < sm) = false := by rw [decide_eq_false_iff_not]; exact ht
                  have HT := Lib.hid ht
                  clear ht
                  go_wp2_with fail
                  refine (CE _ HB2.out).out.mono ?_
                  rintro e w2 ⟨rfl, hb⟩
                  have HBe := Lib.hid (HBL.out _ (HBW.out.trans (hb.mono HBW.out.size)))
                  clear hb
                  by_cases hge : gl = c.games
                  · have hge2 : (gl == c.games) = true := by rw [beq_iff_eq]; exact hge
                    have HQ := Lib.hid (show z = false from HN2.out HT.out)
                    rw [hge2]
                    clear hge hge2
                    go_wp2_with fail
                    go_ret
                    exact ⟨ret_bool HQ.out.symm, HBe.out⟩
                  · have hge2 : (gl == c.games) = false := by rw [beq_eq_false_iff_ne]; exact hge
                    have HQ := Lib.hid (show z = false from HN1.out hge)
                    rw [hge2]
                    clear hge hge2
                    go_wp2_with fail
                    go_ret
                    exact ⟨ret_bool HQ.out.symm, HBe.out⟩
end Go.Proofs.Ythlnfjbedehjdaa
