/- Sync of the reference, where nothing speaks against it. -/
import Derived.Test.YtocjhepiooljpaaZy
import Derived.Test.YtocjhepiooljpaaZl
namespace Go.Proofs.Ytocjhepiooljpaa
open Go.RowKit Go.Deep Go.Shelf

set_option maxRecDepth 20000 in
set_option maxHeartbeats 4000000 in
theorem refSync_go (w : World) (M : Nat → Prop) (l : LogD) (lv : Value) (hL : IsLog w M lv l) (hf : FitR l.recs) (hlok : okL l = true) (d : DiskD) (v : Value) (h : IsDisk w M v d) (hok : okB d = true) (hst : d.stopped = false) (hm : l.many = d.sectors.length) (hp : d.pending = []) :
    Calls Try.prog 22 #[lv, v] w (RetSync w M (syncL l d)) := by
  obtain ⟨sy, hsy, hsyl⟩ : ∃ sy : Nat, l.synced = (sy : Int) ∧ sy ≤ l.recs.length := by
    unfold okL at hlok
    simp only [Bool.and_eq_true, decide_eq_true_eq] at hlok
    exact ⟨l.synced.toNat, by omega, by omega⟩
  have HSP := Lib.hid (syncL_go hlok hok hst hm hp hsy)
  have hck : chkL l = 0 := by simp [chkL, hlok]
  obtain ⟨rv, rfl, rA, rc, rfl, hr1, hr2, hr3⟩ := id hL
  obtain ⟨sA, sc, pA, pc, rfl, hs1, hs2, hs3, hp1, hp2, hp3⟩ := h.parts
  obtain ⟨W1, hW1⟩ : ∃ W1, W1 = (((w.alloc (.cells #[.int .i64 l.many, .slice rA l.recs.length rc, .int .i64 l.synced] 29)).alloc (.cells #[.slice sA d.sectors.length sc, .slice pA d.pending.length pc, .int .i64 d.left, .bool d.stopped] 25)).alloc (.cells #[.int .i64 0, .slice none 0 0, .int .i64 0] 29)).alloc (.cells #[.slice none 0 0, .slice none 0 0, .int .i64 0, .bool false] 25) := ⟨_, rfl⟩
  have hB1 : Below w.heap.size w W1 := by rw [hW1]; exact ((((Below.refl w.heap.size w).alloc (Nat.le_refl _) _).alloc (by simp) _).alloc (by simp; omega) _).alloc (by simp; omega) _
  have hz : W1.heap.size = w.heap.size + 4 := by rw [hW1]; simp
  have hS1 : SyS w M l.many rA rc sy l.recs (.slice sA d.sectors.length sc) (.slice pA d.pending.length pc) (.int .i64 d.left) (.bool d.stopped) d W1 := by
    refine ⟨?_, ?_, ?_, ?_, hB1, by omega, (h.mono (M' := Bx M w.heap.size 4) fun b hb hM => .inl ⟨hM, hb⟩).below hB1, (hr3.mono (M' := Bx M w.heap.size 4) fun b hb hM => .inl ⟨hM, hb⟩).keep fun _ _ hp => hB1.cell hp⟩
    all_goals ((try rw [← hsy]); rw [hW1]; simp only [heap_alloc_if, World.size_alloc]; repeat (first | rw [if_pos trivial] | rw [if_pos (by omega)] | rw [if_neg (by omega)]))
  have C := Lib.hid (refLcheck_any W1 M l _ hf (hL.below hB1))
  rw [hck] at C
  have CD := Lib.hid fun (W : World) (hB : Below w.heap.size w W) => refCheck_any W M d _ (h.below hB)
  rw [chk_of hok] at CD
  have HS1 := Lib.hid hS1
  have HW := Lib.hid hW1
  obtain ⟨hl4096, hsz128⟩ := okB_sized hok
  have hp0 : d.pending.length = 0 := by rw [hp]; rfl
  have hm1 : (l.many != (d.sectors.length : Int)) = false := by rw [bne_eq_false_iff_eq]; exact hm
  have HOK := Lib.hid hok
  have HST := Lib.hid hst
  have HM := Lib.hid hm
  have HP := Lib.hid hp
  have HLOK := Lib.hid hlok
  have HSZ := Lib.hid hsz128
  have HF := Lib.hid hf
  have HSY := Lib.hid hsy
  have HP0 := Lib.hid hp0
  clear hB1 hz hS1 hlok hok hm hp hst hp0 hsz128 hf hL h hr3 hs3 hp3 hck hsy
  go_enter Try.func22, Try.ntmps22
  go_wp2_with fail
  rw [← HW.out]
  clear hW1 HW
  refine C.out.mono ?_
  rintro e w1 ⟨rfl, hb1⟩
  have HS2 := Lib.hid (HS1.out.next hb1)
  clear hb1
  obtain ⟨⟨a0, a1, a2⟩, c0, c1, c2, c3⟩ := HS2.out.cells
  go_wp2_with fail
  refine (CD.out _ HS2.out.below).mono ?_
  rintro e w2 ⟨rfl, hb2⟩
  have HS3 := Lib.hid (HS2.out.next hb2)
  clear hb2 a0 a1 a2 c0 c1 c2 c3
  obtain ⟨⟨a0, a1, a2⟩, c0, c1, c2, c3⟩ := HS3.out.cells
  rw [HST.out] at c3
  rw [HP0.out] at c1
  obtain ⟨sv, pv, hdv, hmt, -⟩ := HS3.out.disk
  simp only [Value.agg.injEq, Array.mk.injEq, List.cons.injEq, and_true] at hdv
  obtain ⟨rfl, -⟩ := hdv
  have HMT := Lib.hid hmt
  have CG := Lib.hid (generation_any w2 _ _ d.sectors (by omega) HSZ.out hmt)
  have CR := fun (W : World) (hB : Below w2.heap.size w2 W) => Lib.hid (refRecords_any W _ _ d.sectors hl4096 HSZ.out (HMT.out.below hB))
  obtain ⟨g, hg⟩ : ∃ g, g = genMax d.sectors + 1 := ⟨_, rfl⟩
  rw [← hg] at CG
  have HG := Lib.hid hg
  clear hmt hg
  go_upto_region 12 with (go_at_call 45; refine CG.out.mono ?_; rintro e wg ⟨rfl, rfl⟩)
  go_cut [66] (fun c W => c = .bool (!decide (recs d.sectors = l.recs.take sy) || decide (4294967296 ≤ g)) ∧ Hid (Below wg.heap.size wg W))
  case first =>
    have hbad0 : ∀ W, Below wg.heap.size wg W → W.cell? ⟨w.heap.size, 1, none⟩ = some (.slice rA l.recs.length rc) ∧ W.cell? ⟨w.heap.size, 2, none⟩ = some (.int .i64 (sy : Int)) ∧ W.cell? ⟨w.heap.size + 1, 0, none⟩ = some (.slice sA d.sectors.length sc) := fun W hW => by
      obtain ⟨⟨-, h1, h2⟩, h3, -⟩ := (HS3.out.next hW).cells
      exact ⟨h1, h2, h3⟩
    have HC := Lib.hid hbad0
    clear hbad0
    have CQ := fun (W : World) (hB : Below wg.heap.size wg W) (M' : Nat → Prop) (v : Value) (h : IsMat W M' v (recs d.sectors)) => Lib.hid (sameRecs_any W M' _ (recs d.sectors) (l.recs.take sy) v (.slice rA sy rc) (by have := recs_len HSZ.out; omega) (by have := HF.out.len; rw [List.length_take]; omega) h ⟨rA, rc, by rw [List.length_take, Nat.min_eq_left hsyl], by rw [List.length_take]; omega, hr2, (HS3.out.next hB).mat.take sy⟩)
    obtain ⟨z, hz⟩ : ∃ z, z = decide (recs d.sectors = l.recs.take sy) := ⟨_, rfl⟩
    rw [← hz] at CQ
    have HZ := Lib.hid hz
    have hsc1 : (sy : Int) ≤ (rc : Int) := by omega
    have hsc2 : ¬ (rc : Int) < (sy : Int) := by omega
    have hsc0 : (0 : Int) ≤ (sy : Int) := by omega
    have hsc3 : sy ≤ rc := by omega
    clear hz
    rcases rA with _ | ⟨rb, ro, rp⟩
    · skip
      refine wp_region_held_drew (S := fun w' => w'.cell? ⟨w.heap.size, 1, none⟩ = some (.slice none l.recs.length rc) ∧ w'.cell? ⟨w.heap.size, 2, none⟩ = some (.int .i64 (sy : Int)) ∧ w'.cell? ⟨w.heap.size + 1, 0, none⟩ = some (.slice sA d.sectors.length sc)) (by kernel_rfl) ⟨a1, a2, c0⟩ (fun hHeld => ?_)
      change wpAnyH _ _ _ _ _ 14 #[false, false, false, false, false, false, false, false, false, false, false, false, false, false] _ wg.drew
      refine takeD (i := 0) (d := some 53) (v := ?_) rfl rfl (by kernel_rfl) (by kernel_rfl) (by kernel_rfl) (fun _ _ _ h => h) (Or.inl ⟨by rfl, ?_⟩) hHeld ?_
      rotate_left 1
      focus (intro w hSw; (try dsimp only at hSw); go_simp; (try with_reducible rfl))
      (repeat (first | simp only [Act.put] | simp only [List.setIfInBounds_toArray] | simp only [List.set_cons_zero] | simp only [List.set_cons_succ]))
      refine takeD (i := 1) (d := some 54) (v := ?_) rfl rfl (by kernel_rfl) (by kernel_rfl) (by kernel_rfl) (fun _ _ _ h => h) (Or.inl ⟨by rfl, ?_⟩) hHeld ?_
      rotate_left 1
      focus (intro w hSw; (try dsimp only at hSw); go_simp; (try with_reducible rfl))
      (repeat (first | simp only [Act.put] | simp only [List.setIfInBounds_toArray] | simp only [List.set_cons_zero] | simp only [List.set_cons_succ]))
      refine takeD (i := 3) (d := some 56) (v := ?_) rfl rfl (by kernel_rfl) (by kernel_rfl) (by kernel_rfl) (fun _ _ _ h => h) (Or.inl ⟨by rfl, ?_⟩) hHeld ?_
      rotate_left 1
      focus (intro w hSw; (try dsimp only at hSw); go_simp; (try with_reducible rfl))
      (repeat (first | simp only [Act.put] | simp only [List.setIfInBounds_toArray] | simp only [List.set_cons_zero] | simp only [List.set_cons_succ]))
      refine takeD (i := 4) (d := some 57) (v := ?_) rfl rfl (by kernel_rfl) (by kernel_rfl) (by kernel_rfl) (fun _ _ _ h => h) (Or.inl ⟨by rfl, ?_⟩) hHeld ?_
      rotate_left 1
      focus (intro w hSw; (try dsimp only at hSw); go_simp; (try with_reducible rfl))
      (repeat (first | simp only [Act.put] | simp only [List.setIfInBounds_toArray] | simp only [List.set_cons_zero] | simp only [List.set_cons_succ]))
      refine takeD (i := 5) (d := some 58) (v := ?_) rfl rfl (by kernel_rfl) (by kernel_rfl) (by kernel_rfl) (fun _ _ _ h => h) (Or.inl ⟨by rfl, ?_⟩) hHeld ?_
      rotate_left 1
      focus (intro w hSw; (try dsimp only at hSw); go_simp; (try with_reducible rfl))
      (repeat (first | simp only [Act.put] | simp only [List.setIfInBounds_toArray] | simp only [List.set_cons_zero] | simp only [List.set_cons_succ]))
      refine takeD (i := 6) (d := some 59) (v := ?_) rfl rfl (by kernel_rfl) (by kernel_rfl) (by kernel_rfl) (fun _ _ _ h => h) (Or.inl ⟨by rfl, ?_⟩) hHeld ?_
      rotate_left 1
      focus (intro w hSw; (try dsimp only at hSw); go_simp; (try with_reducible rfl))
      (repeat (first | simp only [Act.put] | simp only [List.setIfInBounds_toArray] | simp only [List.set_cons_zero] | simp only [List.set_cons_succ]))
      refine takeD (i := 7) (d := some 60) (v := ?_) rfl rfl (by kernel_rfl) (by kernel_rfl) (by kernel_rfl) (fun _ _ _ h => h) (Or.inl ⟨by rfl, ?_⟩) hHeld ?_
      rotate_left 1
      focus (intro w hSw; (try dsimp only at hSw); go_simp; (try with_reducible rfl))
      (repeat (first | simp only [Act.put] | simp only [List.setIfInBounds_toArray] | simp only [List.set_cons_zero] | simp only [List.set_cons_succ]))
      refine wpAnyH_ready (rs := [2]) (by kernel_rfl) (by simp) ?_
      refine AllReadyH.cons rfl (fun K hK => ?_) AllReadyH.nil
      go_simp
      go_at_call 34
      refine (CR _ (Below.drew (Below.refl _ _))).out.mono ?_
      rintro e w9 ⟨⟨v9, rfl, hm9⟩, hb9⟩
      have HB9 : Hid (Below wg.heap.size wg w9) := Lib.hid ((Below.drew (Below.refl _ _)).trans hb9)
      have HM9 := Lib.hid hm9
      clear hb9 hm9
      refine hK.out _ _ (HC.out _ (by repeat (first | with_reducible exact Below.refl _ _ | with_reducible exact HB9.out | (with_reducible refine Below.drew ?_) | (with_reducible refine belowN ?_ _)))) (fun hHeld => ?_)
      clear hK K
      (repeat (first | simp only [Act.put] | simp only [List.setIfInBounds_toArray] | simp only [List.set_cons_zero] | simp only [List.set_cons_succ]))
      refine wpAnyH_ready (rs := [8]) (by kernel_rfl) (by simp) ?_
      refine AllReadyH.cons rfl (fun K hK => ?_) AllReadyH.nil
      go_simp
      go_at_call 24
      refine (CQ _ HB9.out _ _ HM9.out).out.mono ?_
      rintro e w8 ⟨rfl, m8, rfl⟩
      refine hK.out _ _ (HC.out _ (by repeat (first | with_reducible exact Below.refl _ _ | with_reducible exact HB9.out | (with_reducible refine Below.drew ?_) | (with_reducible refine belowN ?_ _)))) (fun hHeld => ?_)
      clear hK K
      (repeat (first | simp only [Act.put] | simp only [List.setIfInBounds_toArray] | simp only [List.set_cons_zero] | simp only [List.set_cons_succ]))
      cases z
      · skip
        refine takeD (i := 9) (d := some 62) (v := ?_) rfl rfl (by kernel_rfl) (by kernel_rfl) (by kernel_rfl) (fun _ _ _ h => h) (Or.inl ⟨by rfl, ?_⟩) hHeld ?_
        rotate_left 1
        focus (intro w hSw; (try dsimp only at hSw); go_simp; (try with_reducible rfl))
        (repeat (first | simp only [Act.put] | simp only [List.setIfInBounds_toArray] | simp only [List.set_cons_zero] | simp only [List.set_cons_succ]))
        refine takeD (i := 10) (d := some 63) (v := ?_) rfl rfl (by kernel_rfl) (by kernel_rfl) (by kernel_rfl) (fun _ _ _ h => h) (Or.inl ⟨by rfl, ?_⟩) hHeld ?_
        rotate_left 1
        focus (intro w hSw; (try dsimp only at hSw); go_simp; (try with_reducible rfl))
        (repeat (first | simp only [Act.put] | simp only [List.setIfInBounds_toArray] | simp only [List.set_cons_zero] | simp only [List.set_cons_succ]))
        refine takeD (i := 11) (d := some 64) (v := undef) rfl rfl (by kernel_rfl) (by kernel_rfl) (by kernel_rfl) (fun _ _ _ h => h) (Or.inr ⟨by rfl, rfl⟩) hHeld ?_
        (repeat (first | simp only [Act.put] | simp only [List.setIfInBounds_toArray] | simp only [List.set_cons_zero] | simp only [List.set_cons_succ]))
        refine takeD (i := 12) (d := some 65) (v := undef) rfl rfl (by kernel_rfl) (by kernel_rfl) (by kernel_rfl) (fun _ _ _ h => h) (Or.inr ⟨by rfl, rfl⟩) hHeld ?_
        (repeat (first | simp only [Act.put] | simp only [List.setIfInBounds_toArray] | simp only [List.set_cons_zero] | simp only [List.set_cons_succ]))
        refine takeD (i := 13) (d := some 66) (v := ?_) rfl rfl (by kernel_rfl) (by kernel_rfl) (by kernel_rfl) (fun _ _ _ h => h) (Or.inl ⟨by rfl, ?_⟩) hHeld ?_
        rotate_left 1
        focus (intro w hSw; (try dsimp only at hSw); go_simp; (try with_reducible rfl))
        (repeat (first | simp only [Act.put] | simp only [List.setIfInBounds_toArray] | simp only [List.set_cons_zero] | simp only [List.set_cons_succ]))
        refine wpAnyH_done (by kernel_rfl) ?_ _
        go_wp2_with fail
        go_meet
        case rel => exact ⟨congrArg Value.bool (by rw [← HZ.out]; rfl), Lib.hid (by repeat (first | with_reducible exact Below.refl _ _ | with_reducible exact HB9.out | (with_reducible refine Below.drew ?_) | (with_reducible refine belowN ?_ _)))⟩
      · skip
        refine takeD (i := 9) (d := some 62) (v := ?_) rfl rfl (by kernel_rfl) (by kernel_rfl) (by kernel_rfl) (fun _ _ _ h => h) (Or.inl ⟨by rfl, ?_⟩) hHeld ?_
        rotate_left 1
        focus (intro w hSw; (try dsimp only at hSw); go_simp; (try with_reducible rfl))
        (repeat (first | simp only [Act.put] | simp only [List.setIfInBounds_toArray] | simp only [List.set_cons_zero] | simp only [List.set_cons_succ]))
        refine takeD (i := 10) (d := some 63) (v := ?_) rfl rfl (by kernel_rfl) (by kernel_rfl) (by kernel_rfl) (fun _ _ _ h => h) (Or.inl ⟨by rfl, ?_⟩) hHeld ?_
        rotate_left 1
        focus (intro w hSw; (try dsimp only at hSw); go_simp; (try with_reducible rfl))
        (repeat (first | simp only [Act.put] | simp only [List.setIfInBounds_toArray] | simp only [List.set_cons_zero] | simp only [List.set_cons_succ]))
        refine takeD (i := 11) (d := some 64) (v := ?_) rfl rfl (by kernel_rfl) (by kernel_rfl) (by kernel_rfl) (fun _ _ _ h => h) (Or.inl ⟨by rfl, ?_⟩) hHeld ?_
        rotate_left 1
        focus (intro w hSw; (try dsimp only at hSw); go_simp; (try with_reducible rfl))
        (repeat (first | simp only [Act.put] | simp only [List.setIfInBounds_toArray] | simp only [List.set_cons_zero] | simp only [List.set_cons_succ]))
        refine takeD (i := 12) (d := some 65) (v := ?_) rfl rfl (by kernel_rfl) (by kernel_rfl) (by kernel_rfl) (fun _ _ _ h => h) (Or.inl ⟨by rfl, ?_⟩) hHeld ?_
        rotate_left 1
        focus (intro w hSw; (try dsimp only at hSw); go_simp; (try with_reducible rfl))
        (repeat (first | simp only [Act.put] | simp only [List.setIfInBounds_toArray] | simp only [List.set_cons_zero] | simp only [List.set_cons_succ]))
        refine takeD (i := 13) (d := some 66) (v := ?_) rfl rfl (by kernel_rfl) (by kernel_rfl) (by kernel_rfl) (fun _ _ _ h => h) (Or.inl ⟨by rfl, ?_⟩) hHeld ?_
        rotate_left 1
        focus (intro w hSw; (try dsimp only at hSw); go_simp; (try with_reducible rfl))
        (repeat (first | simp only [Act.put] | simp only [List.setIfInBounds_toArray] | simp only [List.set_cons_zero] | simp only [List.set_cons_succ]))
        refine wpAnyH_done (by kernel_rfl) ?_ _
        go_wp2_with fail
        go_meet
        case rel => exact ⟨congrArg Value.bool (by rw [← HZ.out, Bool.not_true, Bool.false_or]; exact decide_eq_decide.2 (by omega)), Lib.hid (by repeat (first | with_reducible exact Below.refl _ _ | with_reducible exact HB9.out | (with_reducible refine Below.drew ?_) | (with_reducible refine belowN ?_ _)))⟩
    · skip
      refine wp_region_held_drew (S := fun w' => w'.cell? ⟨w.heap.size, 1, none⟩ = some (.slice (some ⟨rb, ro, rp⟩) l.recs.length rc) ∧ w'.cell? ⟨w.heap.size, 2, none⟩ = some (.int .i64 (sy : Int)) ∧ w'.cell? ⟨w.heap.size + 1, 0, none⟩ = some (.slice sA d.sectors.length sc)) (by kernel_rfl) ⟨a1, a2, c0⟩ (fun hHeld => ?_)
      change wpAnyH _ _ _ _ _ 14 #[false, false, false, false, false, false, false, false, false, false, false, false, false, false] _ wg.drew
      refine takeD (i := 0) (d := some 53) (v := ?_) rfl rfl (by kernel_rfl) (by kernel_rfl) (by kernel_rfl) (fun _ _ _ h => h) (Or.inl ⟨by rfl, ?_⟩) hHeld ?_
      rotate_left 1
      focus (intro w hSw; (try dsimp only at hSw); go_simp; (try with_reducible rfl))
      (repeat (first | simp only [Act.put] | simp only [List.setIfInBounds_toArray] | simp only [List.set_cons_zero] | simp only [List.set_cons_succ]))
      refine takeD (i := 1) (d := some 54) (v := ?_) rfl rfl (by kernel_rfl) (by kernel_rfl) (by kernel_rfl) (fun _ _ _ h => h) (Or.inl ⟨by rfl, ?_⟩) hHeld ?_
      rotate_left 1
      focus (intro w hSw; (try dsimp only at hSw); go_simp; (try with_reducible rfl))
      (repeat (first | simp only [Act.put] | simp only [List.setIfInBounds_toArray] | simp only [List.set_cons_zero] | simp only [List.set_cons_succ]))
      refine takeD (i := 3) (d := some 56) (v := ?_) rfl rfl (by kernel_rfl) (by kernel_rfl) (by kernel_rfl) (fun _ _ _ h => h) (Or.inl ⟨by rfl, ?_⟩) hHeld ?_
      rotate_left 1
      focus (intro w hSw; (try dsimp only at hSw); go_simp; (try with_reducible rfl))
      (repeat (first | simp only [Act.put] | simp only [List.setIfInBounds_toArray] | simp only [List.set_cons_zero] | simp only [List.set_cons_succ]))
      refine takeD (i := 4) (d := some 57) (v := ?_) rfl rfl (by kernel_rfl) (by kernel_rfl) (by kernel_rfl) (fun _ _ _ h => h) (Or.inl ⟨by rfl, ?_⟩) hHeld ?_
      rotate_left 1
      focus (intro w hSw; (try dsimp only at hSw); go_simp; (try with_reducible rfl))
      (repeat (first | simp only [Act.put] | simp only [List.setIfInBounds_toArray] | simp only [List.set_cons_zero] | simp only [List.set_cons_succ]))
      refine takeD (i := 5) (d := some 58) (v := ?_) rfl rfl (by kernel_rfl) (by kernel_rfl) (by kernel_rfl) (fun _ _ _ h => h) (Or.inl ⟨by rfl, ?_⟩) hHeld ?_
      rotate_left 1
      focus (intro w hSw; (try dsimp only at hSw); go_simp; (try with_reducible rfl))
      (repeat (first | simp only [Act.put] | simp only [List.setIfInBounds_toArray] | simp only [List.set_cons_zero] | simp only [List.set_cons_succ]))
      refine takeD (i := 6) (d := some 59) (v := ?_) rfl rfl (by kernel_rfl) (by kernel_rfl) (by kernel_rfl) (fun _ _ _ h => h) (Or.inl ⟨by rfl, ?_⟩) hHeld ?_
      rotate_left 1
      focus (intro w hSw; (try dsimp only at hSw); go_simp; (try with_reducible rfl))
      (repeat (first | simp only [Act.put] | simp only [List.setIfInBounds_toArray] | simp only [List.set_cons_zero] | simp only [List.set_cons_succ]))
      refine takeD (i := 7) (d := some 60) (v := ?_) rfl rfl (by kernel_rfl) (by kernel_rfl) (by kernel_rfl) (fun _ _ _ h => h) (Or.inl ⟨by rfl, ?_⟩) hHeld ?_
      rotate_left 1
      focus (intro w hSw; (try dsimp only at hSw); go_simp; (try with_reducible rfl))
      (repeat (first | simp only [Act.put] | simp only [List.setIfInBounds_toArray] | simp only [List.set_cons_zero] | simp only [List.set_cons_succ]))
      refine wpAnyH_ready (rs := [2]) (by kernel_rfl) (by simp) ?_
      refine AllReadyH.cons rfl (fun K hK => ?_) AllReadyH.nil
      go_simp
      go_at_call 34
      refine (CR _ (Below.drew (Below.refl _ _))).out.mono ?_
      rintro e w9 ⟨⟨v9, rfl, hm9⟩, hb9⟩
      have HB9 : Hid (Below wg.heap.size wg w9) := Lib.hid ((Below.drew (Below.refl _ _)).trans hb9)
      have HM9 := Lib.hid hm9
      clear hb9 hm9
      refine hK.out _ _ (HC.out _ (by repeat (first | with_reducible exact Below.refl _ _ | with_reducible exact HB9.out | (with_reducible refine Below.drew ?_) | (with_reducible refine belowN ?_ _)))) (fun hHeld => ?_)
      clear hK K
      (repeat (first | simp only [Act.put] | simp only [List.setIfInBounds_toArray] | simp only [List.set_cons_zero] | simp only [List.set_cons_succ]))
      refine wpAnyH_ready (rs := [8]) (by kernel_rfl) (by simp) ?_
      refine AllReadyH.cons rfl (fun K hK => ?_) AllReadyH.nil
      go_simp
      go_at_call 24
      refine (CQ _ HB9.out _ _ HM9.out).out.mono ?_
      rintro e w8 ⟨rfl, m8, rfl⟩
      refine hK.out _ _ (HC.out _ (by repeat (first | with_reducible exact Below.refl _ _ | with_reducible exact HB9.out | (with_reducible refine Below.drew ?_) | (with_reducible refine belowN ?_ _)))) (fun hHeld => ?_)
      clear hK K
      (repeat (first | simp only [Act.put] | simp only [List.setIfInBounds_toArray] | simp only [List.set_cons_zero] | simp only [List.set_cons_succ]))
      cases z
      · skip
        refine takeD (i := 9) (d := some 62) (v := ?_) rfl rfl (by kernel_rfl) (by kernel_rfl) (by kernel_rfl) (fun _ _ _ h => h) (Or.inl ⟨by rfl, ?_⟩) hHeld ?_
        rotate_left 1
        focus (intro w hSw; (try dsimp only at hSw); go_simp; (try with_reducible rfl))
        (repeat (first | simp only [Act.put] | simp only [List.setIfInBounds_toArray] | simp only [List.set_cons_zero] | simp only [List.set_cons_succ]))
        refine takeD (i := 10) (d := some 63) (v := ?_) rfl rfl (by kernel_rfl) (by kernel_rfl) (by kernel_rfl) (fun _ _ _ h => h) (Or.inl ⟨by rfl, ?_⟩) hHeld ?_
        rotate_left 1
        focus (intro w hSw; (try dsimp only at hSw); go_simp; (try with_reducible rfl))
        (repeat (first | simp only [Act.put] | simp only [List.setIfInBounds_toArray] | simp only [List.set_cons_zero] | simp only [List.set_cons_succ]))
        refine takeD (i := 11) (d := some 64) (v := undef) rfl rfl (by kernel_rfl) (by kernel_rfl) (by kernel_rfl) (fun _ _ _ h => h) (Or.inr ⟨by rfl, rfl⟩) hHeld ?_
        (repeat (first | simp only [Act.put] | simp only [List.setIfInBounds_toArray] | simp only [List.set_cons_zero] | simp only [List.set_cons_succ]))
        refine takeD (i := 12) (d := some 65) (v := undef) rfl rfl (by kernel_rfl) (by kernel_rfl) (by kernel_rfl) (fun _ _ _ h => h) (Or.inr ⟨by rfl, rfl⟩) hHeld ?_
        (repeat (first | simp only [Act.put] | simp only [List.setIfInBounds_toArray] | simp only [List.set_cons_zero] | simp only [List.set_cons_succ]))
        refine takeD (i := 13) (d := some 66) (v := ?_) rfl rfl (by kernel_rfl) (by kernel_rfl) (by kernel_rfl) (fun _ _ _ h => h) (Or.inl ⟨by rfl, ?_⟩) hHeld ?_
        rotate_left 1
        focus (intro w hSw; (try dsimp only at hSw); go_simp; (try with_reducible rfl))
        (repeat (first | simp only [Act.put] | simp only [List.setIfInBounds_toArray] | simp only [List.set_cons_zero] | simp only [List.set_cons_succ]))
        refine wpAnyH_done (by kernel_rfl) ?_ _
        go_wp2_with fail
        go_meet
        case rel => exact ⟨congrArg Value.bool (by rw [← HZ.out]; rfl), Lib.hid (by repeat (first | with_reducible exact Below.refl _ _ | with_reducible exact HB9.out | (with_reducible refine Below.drew ?_) | (with_reducible refine belowN ?_ _)))⟩
      · skip
        refine takeD (i := 9) (d := some 62) (v := ?_) rfl rfl (by kernel_rfl) (by kernel_rfl) (by kernel_rfl) (fun _ _ _ h => h) (Or.inl ⟨by rfl, ?_⟩) hHeld ?_
        rotate_left 1
        focus (intro w hSw; (try dsimp only at hSw); go_simp; (try with_reducible rfl))
        (repeat (first | simp only [Act.put] | simp only [List.setIfInBounds_toArray] | simp only [List.set_cons_zero] | simp only [List.set_cons_succ]))
        refine takeD (i := 10) (d := some 63) (v := ?_) rfl rfl (by kernel_rfl) (by kernel_rfl) (by kernel_rfl) (fun _ _ _ h => h) (Or.inl ⟨by rfl, ?_⟩) hHeld ?_
        rotate_left 1
        focus (intro w hSw; (try dsimp only at hSw); go_simp; (try with_reducible rfl))
        (repeat (first | simp only [Act.put] | simp only [List.setIfInBounds_toArray] | simp only [List.set_cons_zero] | simp only [List.set_cons_succ]))
        refine takeD (i := 11) (d := some 64) (v := ?_) rfl rfl (by kernel_rfl) (by kernel_rfl) (by kernel_rfl) (fun _ _ _ h => h) (Or.inl ⟨by rfl, ?_⟩) hHeld ?_
        rotate_left 1
        focus (intro w hSw; (try dsimp only at hSw); go_simp; (try with_reducible rfl))
        (repeat (first | simp only [Act.put] | simp only [List.setIfInBounds_toArray] | simp only [List.set_cons_zero] | simp only [List.set_cons_succ]))
        refine takeD (i := 12) (d := some 65) (v := ?_) rfl rfl (by kernel_rfl) (by kernel_rfl) (by kernel_rfl) (fun _ _ _ h => h) (Or.inl ⟨by rfl, ?_⟩) hHeld ?_
        rotate_left 1
        focus (intro w hSw; (try dsimp only at hSw); go_simp; (try with_reducible rfl))
        (repeat (first | simp only [Act.put] | simp only [List.setIfInBounds_toArray] | simp only [List.set_cons_zero] | simp only [List.set_cons_succ]))
        refine takeD (i := 13) (d := some 66) (v := ?_) rfl rfl (by kernel_rfl) (by kernel_rfl) (by kernel_rfl) (fun _ _ _ h => h) (Or.inl ⟨by rfl, ?_⟩) hHeld ?_
        rotate_left 1
        focus (intro w hSw; (try dsimp only at hSw); go_simp; (try with_reducible rfl))
        (repeat (first | simp only [Act.put] | simp only [List.setIfInBounds_toArray] | simp only [List.set_cons_zero] | simp only [List.set_cons_succ]))
        refine wpAnyH_done (by kernel_rfl) ?_ _
        go_wp2_with fail
        go_meet
        case rel => exact ⟨congrArg Value.bool (by rw [← HZ.out, Bool.not_true, Bool.false_or]; exact decide_eq_decide.2 (by omega)), Lib.hid (by repeat (first | with_reducible exact Below.refl _ _ | with_reducible exact HB9.out | (with_reducible refine Below.drew ?_) | (with_reducible refine belowN ?_ _)))⟩
  case rest =>
    obtain ⟨hc, HBc⟩ := hcut
    have HS4 := Lib.hid (HS3.out.next HBc.out)
    clear a0 a1 a2 c0 c1 c2 c3 CG CR HBc
    obtain ⟨⟨a0, a1, a2⟩, c0, c1, c2, c3⟩ := HS4.out.cells
    rw [HST.out] at c3
    rw [HP0.out] at c1
    have r0 := cell_of (j := 0) HS4.out.b2 rfl
    have r1 := cell_of (j := 1) HS4.out.b2 rfl
    have r2 := cell_of (j := 2) HS4.out.b2 rfl
    have s0 := cell_of (j := 0) HS4.out.b3 rfl
    have s1 := cell_of (j := 1) HS4.out.b3 rfl
    have s2 := cell_of (j := 2) HS4.out.b3 rfl
    have s3 := cell_of (j := 3) HS4.out.b3 rfl
    have q0 : wc.frozen? ⟨w.heap.size + 1 + 1, 0, none⟩ = false := by simp [World.frozen?, HS4.out.b2]
    have q1 : wc.frozen? ⟨w.heap.size + 1 + 1, 1, none⟩ = false := by simp [World.frozen?, HS4.out.b2]
    have q2 : wc.frozen? ⟨w.heap.size + 1 + 1, 2, none⟩ = false := by simp [World.frozen?, HS4.out.b2]
    have p0 : wc.frozen? ⟨w.heap.size + 1 + 1 + 1, 0, none⟩ = false := by simp [World.frozen?, HS4.out.b3]
    have p1 : wc.frozen? ⟨w.heap.size + 1 + 1 + 1, 1, none⟩ = false := by simp [World.frozen?, HS4.out.b3]
    have p2 : wc.frozen? ⟨w.heap.size + 1 + 1 + 1, 2, none⟩ = false := by simp [World.frozen?, HS4.out.b3]
    have p3 : wc.frozen? ⟨w.heap.size + 1 + 1 + 1, 3, none⟩ = false := by simp [World.frozen?, HS4.out.b3]
    have hszc := HS4.out.size
    by_cases hbad : recs d.sectors = l.recs.take sy ∧ ¬ 4294967296 ≤ g
    · have hc2 : u66 = .bool false := by rw [hc, decide_eq_true hbad.1, decide_eq_false hbad.2]; rfl
      subst hc2
      clear hc
      have HREC := Lib.hid hbad.1
      have hg32 : g < 4294967296 := by omega
      have HSP2 := HSP.out
      rw [if_neg (by rw [← HG.out]; intro h; rcases h with h | h; exact h hbad.1; omega)] at HSP2
      replace HSP := Lib.hid HSP2
      clear HSP2 hbad
      by_cases hfull : sy = l.recs.length
      · have HSP2 := HSP.out
        rw [if_pos hfull] at HSP2
        replace HSP := Lib.hid HSP2
        clear HSP2
        have hfb : ((sy : Int) == (l.recs.length : Int)) = true := by rw [beq_iff_eq]; omega
        have HFULL := Lib.hid hfull
        clear hfull
        go_wp2_with fail
        go_region_held3 (fun w' => w'.cell? ⟨w.heap.size, 0, none⟩ = some (.int .i64 l.many) ∧ w'.cell? ⟨w.heap.size, 1, none⟩ = some (.slice rA l.recs.length rc) ∧ w'.cell? ⟨w.heap.size, 2, none⟩ = some (.int .i64 (sy : Int)) ∧ w'.cell? ⟨w.heap.size + 1, 0, none⟩ = some (.slice sA d.sectors.length sc) ∧ w'.cell? ⟨w.heap.size + 1, 1, none⟩ = some (.slice pA 0 pc) ∧ w'.cell? ⟨w.heap.size + 1, 2, none⟩ = some (.int .i64 d.left) ∧ w'.cell? ⟨w.heap.size + 1, 3, none⟩ = some (.bool false)) (first | with_reducible exact ⟨a0, a1, a2, c0, c1, c2, c3⟩ | (refine ⟨?_, ?_, ?_, ?_, ?_, ?_, ?_⟩ <;> (repeat (first | with_reducible assumption | with_reducible refine cell_dr ?_ | with_reducible refine cell_off (by simp <;> omega) ?_)))) (first | fail)
        all_goals go_wp2_with fail
        all_goals
          obtain ⟨W', hW'⟩ : ∃ W', W' = _ := ⟨_, rfl⟩
          obtain ⟨⟨⟨k0, k1, k2⟩, k3, k4, k5, k6⟩, hl9, hd9, hb9⟩ := HS4.out.ret (L := l) (E := d) ⟨_, by rw [HSY.out], rA, rc, rfl, hr1, hr2, HS4.out.mat⟩ (by have := HS4.out.disk; rw [HP0.out, HST.out] at this; exact this) hW'
          rw [← hW']
          refine bodyPost_ret (v := .tuple #[.agg #[.int .i64 l.many, .slice rA l.recs.length rc, .int .i64 (sy : Int)], .agg #[.slice sA d.sectors.length sc, .slice pA 0 pc, .int .i64 d.left, .bool false], .int .i64 0]) (by simp [results, Try.results22, go_sem, cell_dr k0, cell_dr k1, cell_dr k2, cell_dr k3, cell_dr k4, cell_dr k5, cell_dr k6]) rfl (RetSync.mk (hl9.keep fun _ _ _ => rfl) (hd9.keep fun _ _ _ => rfl) hb9.drew HSP.out)
      · have HSP2 := HSP.out
        rw [if_neg hfull] at HSP2
        replace HSP := Lib.hid HSP2
        clear HSP2
        have hfb : ((sy : Int) == (l.recs.length : Int)) = false := by rw [beq_eq_false_iff_ne]; omega
        have hlt : sy < l.recs.length := by omega
        have hsc1 : (sy : Int) ≤ (rc : Int) := by omega
        have hsc2 : ¬ (rc : Int) < (sy : Int) := by omega
        have hsc3 : ¬ rc = 0 := by omega
        have hsc4 : sy ≤ rc := by omega
        clear hfull
        obtain ⟨rb, ro, rfl⟩ := HS4.out.mat.head (show 0 < l.recs.length by omega)
        have htl : (l.recs.take sy).length = sy := by rw [List.length_take, Nat.min_eq_left hsyl]
        have CU := Lib.hid (refUsed_any wc _ (some ⟨rb, ro, none⟩) rc (l.recs.take sy) (by have := HF.out.len; rw [List.length_take]; omega) (LensR.take HF.out.lens sy) (HS4.out.mat.take sy))
        obtain ⟨t0, ht0⟩ : ∃ t, t = used (recs d.sectors) := ⟨_, rfl⟩
        have ht0l : t0 ≤ d.sectors.length := by
          obtain ⟨-, -, h, -⟩ := recs_split HSZ.out
          rw [ht0]; exact h
        rw [htl, ← HREC.out, usedI_small (by rw [← ht0]; omega), ← ht0] at CU
        obtain ⟨S, hS⟩ : ∃ S, S = recsW g t0 (l.recs.drop sy) := ⟨_, rfl⟩
        rw [← ht0, ← HG.out, ← hS] at HSP
        have HSD := Lib.hid hS
        have HT0 := Lib.hid ht0
        have HE4 : Hid (SyE w M l.many (some ⟨rb, ro, none⟩) rc sy l.recs (wroteOr d t0 (S.take (used ((l.recs.drop sy).take (sy - sy))))) wc) := Lib.hid ⟨_, _, _, _, by
          have := HS4.out
          rw [Nat.sub_self, List.take_zero, used_nil, List.take_zero]
          have e : wroteOr d t0 [] = d := by
            unfold wroteOr wroteAt wrsAt
            rw [if_pos (by simpa using ht0l), List.append_nil]
          rw [e]
          exact this⟩
        clear hS ht0 htl
        have CS := fun W n hn => Lib.hid (refSectors_any W n hn)
        clear r0 r1 r2 s0 s1 s2 s3 q0 q1 q2 p0 p1 p2 p3 hszc
        go_wp2_with (go_at_call 40; refine CU.out.mono ?_; rintro e w2 ⟨rfl, rfl⟩)
        clear a0 a1 a2 c0 c1 c2 c3
        go_loopw [10, 11] (fun q i wr => ∃ (z : Int) (k : Nat), sy ≤ k ∧ k ≤ l.recs.length ∧ q = .int .i64 z ∧ i = .int .i64 (k : Int) ∧ Hid (t0 + used ((l.recs.drop sy).take (k - sy)) ≤ d.sectors.length → z = ((t0 + used ((l.recs.drop sy).take (k - sy)) : Nat) : Int)) ∧ Hid (SyE w M l.many (some ⟨rb, ro, none⟩) rc sy l.recs (wroteOr d t0 (S.take (used ((l.recs.drop sy).take (k - sy))))) wr)) (fun _ i _ => l.recs.length - (intOf i).toNat)
        case atStart => exact ⟨(t0 : Int), sy, Nat.le_refl _, hsyl, rfl, rfl, Lib.hid (fun _ => by rw [Nat.sub_self, List.take_zero, used_nil, Nat.add_zero]), HE4⟩
        case round =>
          obtain ⟨z, k, hk1, hk2, rfl, rfl, HZ, HE⟩ := hrel
          obtain ⟨wx, rfl⟩ : ∃ wx, wx = wr := ⟨_, rfl⟩
          obtain ⟨x0, x1, x2, x3, hSS⟩ := id HE.out
          have HSS := Lib.hid hSS
          clear hSS
          obtain ⟨⟨a0, a1, a2⟩, c0, c1, c2, c3⟩ := HSS.out.cells
          by_cases hkl : k < l.recs.length
          · obtain ⟨b', off', bA, bc, hbe, hbl, hck, hb1, hb2, hb3⟩ := HSS.out.mat.at_ (Below.refl _ _) hkl
            cases hbe
            have HLE := Lib.hid (HF.out.lens k hkl)
            obtain ⟨b, hb⟩ : ∃ b, b = l.recs[k] := ⟨_, rfl⟩
            rw [← hb] at hck hb1 hb3 HLE
            have HBR := Lib.hid hb
            have HB3 := Lib.hid hb3
            have hk0 : (0 : Int) ≤ (k : Int) := by omega
            have hk3 : (k : Int) < (l.recs.length : Int) := by omega
            clear hb hb3
            obtain ⟨nb, hnb⟩ : ∃ nb, nb = secs b.length := ⟨_, rfl⟩
            have CSb := fun W => Lib.hid (show Calls Try.prog 39 #[.int .i64 (b.length : Int)] W fun e w' => e = .returned (.int .i64 (nb : Nat)) ∧ W = w' by rw [hnb]; exact refSectors_any W b.length HLE.out)
            have hnb1 : 1 ≤ nb ∧ 116 * (nb - 1) ≤ b.length ∧ (b.length ≠ 0 → 116 * (nb - 1) < b.length) := by unfold secs at hnb; omega
            have HNB1 := Lib.hid hnb1
            have HNB := Lib.hid hnb
            obtain ⟨m0, hm0⟩ : ∃ m0, m0 = used ((l.recs.drop sy).take (k - sy)) := ⟨_, rfl⟩
            rw [← hm0] at HZ HE
            have HM0 := Lib.hid hm0
            clear hm0 hnb hnb1
            go_wp2_with (go_at_call 39; refine (CSb _).out.mono ?_; rintro e w2 ⟨rfl, rfl⟩)
            clear a0 a1 a2 c0 c1 c2 c3
            go_loopw [10, 14] (fun q i wr => ∃ (z : Int) (j : Nat), j ≤ nb ∧ q = .int .i64 z ∧ i = .int .i64 (j : Int) ∧ Hid (t0 + (m0 + j) ≤ d.sectors.length → z = ((t0 + (m0 + j) : Nat) : Int)) ∧ Hid (BytesC wr (Bx M w.heap.size 4) bA b) ∧ Hid (SyE w M l.many (some ⟨rb, ro, none⟩) rc sy l.recs (wroteOr d t0 (S.take (m0 + j))) wr)) (fun _ i _ => nb - (intOf i).toNat)
            case atStart => exact ⟨z, 0, Nat.zero_le _, rfl, rfl, HZ, HB3, HE⟩
            case round =>
              clear HB3
              obtain ⟨z, j, hj1, rfl, rfl, HZ2, HB3, HE2⟩ := hrel
              clear HZ HE HSS
              obtain ⟨x0, x1, x2, x3, hSS⟩ := id HE2.out
              have HSS := Lib.hid hSS
              clear hSS
              obtain ⟨⟨a0, a1, a2⟩, c0, c1, c2, c3⟩ := HSS.out.cells
              by_cases hjn : j < nb
              · have hj0 : (0 : Int) ≤ (j : Int) := by omega
                have hj3 : (j : Int) < (nb : Int) := by omega
                have hlj : j * 116 ≤ b.length ∧ (b.length ≠ 0 → j * 116 < b.length) ∧ (j ≠ 0 → b.length ≠ 0) := by
                  obtain ⟨h1, h2, h3⟩ := HNB1.out
                  have h4 : 116 * j ≤ 116 * (nb - 1) := Nat.mul_le_mul_left _ (by omega)
                  refine ⟨by omega, fun h => by have := h3 h; omega, fun h e => by
                    have h5 := HNB.out
                    rw [e] at h5
                    have : secs 0 = 1 := by decide
                    omega⟩
                obtain ⟨bl, hbl2⟩ : ∃ bl, bl = b.length := ⟨_, rfl⟩
                have HLE2 := Lib.hid HLE.out
                have hLE := HLE.out
                have hnb9 : (nb : Int) ≤ 140737488355328 := by have := HNB1.out; omega
                go_upto_region 26 with fail
                rw [piece_len hlj.1]
                have hpB := piece_mem (j := j) HB3.out hb1
                have hpl := pieceOf_le b j
                have hpc : (pieceOf b j).length ≤ bc - j * 116 := by have := pieceOf_length b j; omega
                have hpc2 : bc - j * 116 ≤ 9223372036854775807 := by omega
                obtain ⟨pA2, hpA2⟩ : ∃ x, x = (if bc = j * 116 then bA else Option.map (fun x => x.add (j * 116)) bA) := ⟨_, rfl⟩
                obtain ⟨pC, hpC⟩ : ∃ x, x = bc - j * 116 := ⟨_, rfl⟩
                rw [← hpA2] at hpB ⊢
                rw [← hpC] at hpc hpc2 ⊢
                have HPB := Lib.hid hpB
                obtain ⟨pc9, hpc9⟩ : ∃ x, x = (IntKind.u64.wrap z).toNat := ⟨_, rfl⟩
                have hw := IntKind.wrap_u64 z
                have hki : IntKind.u64.wrap z = (pc9 : Int) := by omega
                have hkl9 : pc9 < 18446744073709551616 := by omega
                have CSe := fun (W : World) (hB : Below wr.heap.size wr W) (be en : Bool) => Lib.hid (show Calls Try.prog 47 #[.int .u64 (g : Int), .int .i64 z, .bool be, .bool en, .slice pA2 (pieceOf b j).length pC] W fun e w' => ∃ A c, e = .returned (.slice A 128 c) ∧ Hid (BytesC w' (fun q => W.heap.size ≤ q) A (secOf g pc9 (kindB be en) (pieceOf b j))) ∧ Below W.heap.size W w' from
                  (sector_any W (Bx M w.heap.size 4) g pc9 z be en (pieceOf b j) (.slice pA2 (pieceOf b j).length pC) (by omega) hki hkl9 hpl ⟨pA2, pC, rfl, hpc, hpc2, HPB.out.below hB⟩).mono fun e w' ⟨v, he, ⟨A, c, hv, _, _, hb⟩, hbl⟩ => ⟨A, c, by rw [he, hv, secOf_length hpl], Lib.hid hb, hbl⟩)
                obtain ⟨D2, hD2⟩ : ∃ x, x = wroteOr d t0 (S.take (m0 + (j + 1))) := ⟨_, rfl⟩
                obtain ⟨cd, hcd⟩ : ∃ x : Int, x = (if t0 + (m0 + j) < d.sectors.length then 0 else 340) := ⟨_, rfl⟩
                have CWr : ∀ (W : World) (_ : Below wr.heap.size wr W) (A : Option Addr) (c : Nat) (be en : Bool) (_ : BytesC W (fun q => wr.heap.size ≤ q) A (secOf g pc9 (kindB be en) (pieceOf b j))) (_ : be = decide (j = 0)) (_ : en = decide (j + 1 = nb)),
                    Hid (Calls Try.prog 46 #[.agg #[x0, x1, x2, x3], .int .i64 z, .slice A 128 c] W (RetDiskE W (New (Bx M w.heap.size 4) W) (D2, cd))) := fun W hB A c be en hb hbe hen => by
                  obtain ⟨hi, hie⟩ := recs_at hk1 hkl
                  have hx := next_write (be := be) (en := en) (S := S) (g := g) (t0 := t0) (z := z) (i := k - sy) (j := j) (new := l.recs.drop sy) HOK.out HST.out HP.out HSD.out hi (by rw [hie, ← HBR.out, ← HNB.out]; exact hjn) (by rw [← HM0.out]; exact HZ2.out) hbe (by rw [hie, ← HBR.out, ← HNB.out]; exact hen)
                  rw [hie, ← HBR.out, ← HM0.out, ← hpc9, ← hD2, ← hcd] at hx
                  have hsz := HSS.out.size
                  have hq := refWrite_any W (Bx M w.heap.size 4) _ (.agg #[x0, x1, x2, x3]) (HSS.out.disk.below hB) z (secOf g pc9 (kindB be en) (pieceOf b j)) A c (hb.mono fun q _ hq => .inr (by omega)) (by rw [secOf_length hpl]; omega)
                  rw [hx, secOf_length hpl] at hq
                  exact Lib.hid hq
                have HBE := Lib.hid (show ((j : Int) == 0) = decide (j = 0) by rw [Bool.eq_iff_iff]; simp)
                have HEN := Lib.hid (show ((j : Int) == IntKind.i64.wrap ((nb : Int) - 1)) = decide (j + 1 = nb) by rw [Bool.eq_iff_iff, IntKind.wrap_i64]; simp; omega)
                have HPC9 := Lib.hid hpc9
                have HD2 := Lib.hid hD2
                clear hpB hpA2 hpC hw hpc9 hD2 hcd hki hkl9
                refine anyL_begin (z := 16) (S := fun w' => w'.cell? ⟨w.heap.size + 1, 0, none⟩ = some x0 ∧ w'.cell? ⟨w.heap.size + 1, 1, none⟩ = some x1 ∧ w'.cell? ⟨w.heap.size + 1, 2, none⟩ = some x2 ∧ w'.cell? ⟨w.heap.size + 1, 3, none⟩ = some x3) (by kernel_rfl) ⟨c0, c1, c2, c3⟩ (fun hHeld => ?_)
                refine AnyL.take (i := 0) (v := ?_) rfl (by kernel_rfl) (by kernel_rfl) (fun _ _ _ h => h) (by kernel_rfl) (by kernel_rfl) (by kernel_rfl) (Or.inl ⟨by rfl, ?_⟩) hHeld ?_
                rotate_left 1
                focus (intro w hSw; (try dsimp only at hSw); go_simp; (try with_reducible rfl))
                (repeat (first | simp only [Act.put] | simp only [List.setIfInBounds_toArray] | simp only [List.set_cons_zero] | simp only [List.set_cons_succ]))
                refine AnyL.take (i := 1) (v := ?_) rfl (by kernel_rfl) (by kernel_rfl) (fun _ _ _ h => h) (by kernel_rfl) (by kernel_rfl) (by kernel_rfl) (Or.inl ⟨by rfl, ?_⟩) hHeld ?_
                rotate_left 1
                focus (intro w hSw; (try dsimp only at hSw); go_simp; (try with_reducible rfl))
                (repeat (first | simp only [Act.put] | simp only [List.setIfInBounds_toArray] | simp only [List.set_cons_zero] | simp only [List.set_cons_succ]))
                refine AnyL.take (i := 2) (v := ?_) rfl (by kernel_rfl) (by kernel_rfl) (fun _ _ _ h => h) (by kernel_rfl) (by kernel_rfl) (by kernel_rfl) (Or.inl ⟨by rfl, ?_⟩) hHeld ?_
                rotate_left 1
                focus (intro w hSw; (try dsimp only at hSw); go_simp; (try with_reducible rfl))
                (repeat (first | simp only [Act.put] | simp only [List.setIfInBounds_toArray] | simp only [List.set_cons_zero] | simp only [List.set_cons_succ]))
                refine AnyL.take (i := 3) (v := ?_) rfl (by kernel_rfl) (by kernel_rfl) (fun _ _ _ h => h) (by kernel_rfl) (by kernel_rfl) (by kernel_rfl) (Or.inl ⟨by rfl, ?_⟩) hHeld ?_
                rotate_left 1
                focus (intro w hSw; (try dsimp only at hSw); go_simp; (try with_reducible rfl))
                (repeat (first | simp only [Act.put] | simp only [List.setIfInBounds_toArray] | simp only [List.set_cons_zero] | simp only [List.set_cons_succ]))
                refine AnyL.take (i := 4) (v := ?_) rfl (by kernel_rfl) (by kernel_rfl) (fun _ _ _ h => h) (by kernel_rfl) (by kernel_rfl) (by kernel_rfl) (Or.inl ⟨by rfl, ?_⟩) hHeld ?_
                rotate_left 1
                focus (intro w hSw; (try dsimp only at hSw); go_simp; (try with_reducible rfl))
                (repeat (first | simp only [Act.put] | simp only [List.setIfInBounds_toArray] | simp only [List.set_cons_zero] | simp only [List.set_cons_succ]))
                refine AnyL.take (i := 5) (v := ?_) rfl (by kernel_rfl) (by kernel_rfl) (fun _ _ _ h => h) (by kernel_rfl) (by kernel_rfl) (by kernel_rfl) (Or.inl ⟨by rfl, ?_⟩) hHeld ?_
                rotate_left 1
                focus (intro w hSw; (try dsimp only at hSw); go_simp; (try with_reducible rfl))
                (repeat (first | simp only [Act.put] | simp only [List.setIfInBounds_toArray] | simp only [List.set_cons_zero] | simp only [List.set_cons_succ]))
                refine AnyL.take (i := 6) (v := ?_) rfl (by kernel_rfl) (by kernel_rfl) (fun _ _ _ h => h) (by kernel_rfl) (by kernel_rfl) (by kernel_rfl) (Or.inl ⟨by rfl, ?_⟩) hHeld ?_
                rotate_left 1
                focus (intro w hSw; (try dsimp only at hSw); go_simp; (try with_reducible rfl))
                (repeat (first | simp only [Act.put] | simp only [List.setIfInBounds_toArray] | simp only [List.set_cons_zero] | simp only [List.set_cons_succ]))
                refine AnyL.take (i := 7) (v := ?_) rfl (by kernel_rfl) (by kernel_rfl) (fun _ _ _ h => h) (by kernel_rfl) (by kernel_rfl) (by kernel_rfl) (Or.inl ⟨by rfl, ?_⟩) hHeld ?_
                rotate_left 1
                focus (intro w hSw; (try dsimp only at hSw); go_simp; (try with_reducible rfl))
                (repeat (first | simp only [Act.put] | simp only [List.setIfInBounds_toArray] | simp only [List.set_cons_zero] | simp only [List.set_cons_succ]))
                refine AnyL.take (i := 8) (v := ?_) rfl (by kernel_rfl) (by kernel_rfl) (fun _ _ _ h => h) (by kernel_rfl) (by kernel_rfl) (by kernel_rfl) (Or.inl ⟨by rfl, ?_⟩) hHeld ?_
                rotate_left 1
                focus (intro w hSw; (try dsimp only at hSw); go_simp; (try with_reducible rfl))
                (repeat (first | simp only [Act.put] | simp only [List.setIfInBounds_toArray] | simp only [List.set_cons_zero] | simp only [List.set_cons_succ]))
                refine AnyL.take (i := 9) (v := ?_) rfl (by kernel_rfl) (by kernel_rfl) (fun _ _ _ h => h) (by kernel_rfl) (by kernel_rfl) (by kernel_rfl) (Or.inl ⟨by rfl, ?_⟩) hHeld ?_
                rotate_left 1
                focus (intro w hSw; (try dsimp only at hSw); go_simp; (try with_reducible rfl))
                (repeat (first | simp only [Act.put] | simp only [List.setIfInBounds_toArray] | simp only [List.set_cons_zero] | simp only [List.set_cons_succ]))
                refine AnyL.take (i := 10) (v := ?_) rfl (by kernel_rfl) (by kernel_rfl) (fun _ _ _ h => h) (by kernel_rfl) (by kernel_rfl) (by kernel_rfl) (Or.inl ⟨by rfl, ?_⟩) hHeld ?_
                rotate_left 1
                focus (intro w hSw; (try dsimp only at hSw); go_simp; (try with_reducible rfl))
                (repeat (first | simp only [Act.put] | simp only [List.setIfInBounds_toArray] | simp only [List.set_cons_zero] | simp only [List.set_cons_succ]))
                refine AnyL.one (i := 11) (by kernel_rfl) rfl (fun K hK => ?_)
                go_simp
                go_at_call 47
                refine (CSe _ (Below.drew (Below.refl _ _)) _ _).out.mono ?_
                rintro e w9 ⟨A9, c9, rfl, HM9, hb9⟩
                have HB9 : Hid (Below wr.heap.size wr w9) := Lib.hid ((Below.drew (Below.refl _ _)).trans hb9)
                clear hb9
                refine hK.out _ _ (fun _ => (HSS.out.next HB9.out).cells.2) (fun hHeld => ?_)
                replace hHeld := hHeld (by kernel_rfl)
                clear hK K
                (repeat (first | simp only [Act.put] | simp only [List.setIfInBounds_toArray] | simp only [List.set_cons_zero] | simp only [List.set_cons_succ]))
                refine AnyL.one (i := 12) (by kernel_rfl) rfl (fun K hK => ?_)
                go_simp
                go_at_call 46
                refine (CWr _ HB9.out _ _ _ _ HM9.out HBE.out HEN.out).out.mono ?_
                rintro e w8 ⟨v8, rfl, hd8, hb8⟩
                have HB8 : Hid (Below wr.heap.size wr w8) := Lib.hid (HB9.out.trans (hb8.mono HB9.out.size))
                have HD8 := Lib.hid (hd8.mono (M' := Bx M w.heap.size 4) fun q _ hq => Bx.new (Nat.le_trans HSS.out.size HB9.out.size) hq)
                obtain ⟨sA8, sc8, pA8, pc8, rfl, -⟩ := hd8.parts
                clear hb8 hd8
                refine hK.out _ _ (fun _ => (HSS.out.next HB8.out).cells.2) (fun hHeld => ?_)
                replace hHeld := hHeld (by kernel_rfl)
                clear hK K
                (try dsimp only)
                refine AnyL.take (i := 13) (v := ?_) rfl (by kernel_rfl) (by kernel_rfl) (fun _ _ _ h => h) (by kernel_rfl) (by kernel_rfl) (by kernel_rfl) (Or.inl ⟨by rfl, ?_⟩) hHeld ?_
                rotate_left 1
                focus (intro w hSw; (try dsimp only at hSw); go_simp; (try with_reducible rfl))
                (repeat (first | simp only [Act.put] | simp only [List.setIfInBounds_toArray] | simp only [List.set_cons_zero] | simp only [List.set_cons_succ]))
                refine AnyL.take (i := 14) (v := ?_) rfl (by kernel_rfl) (by kernel_rfl) (fun _ _ _ h => h) (by kernel_rfl) (by kernel_rfl) (by kernel_rfl) (Or.inl ⟨by rfl, ?_⟩) hHeld ?_
                rotate_left 1
                focus (intro w hSw; (try dsimp only at hSw); go_simp; (try with_reducible rfl))
                (repeat (first | simp only [Act.put] | simp only [List.setIfInBounds_toArray] | simp only [List.set_cons_zero] | simp only [List.set_cons_succ]))
                refine AnyL.late (i := 15) (v := ?_) rfl (by kernel_rfl) (by kernel_rfl) (fun _ _ _ h => h) (by kernel_rfl) (by kernel_rfl) (Or.inl ⟨by rfl, ?_⟩) (fun _ => hHeld) ?_
                rotate_left 1
                focus (intro w hSw; (try dsimp only at hSw); go_simp; (try with_reducible rfl))
                (repeat (first | simp only [Act.put] | simp only [List.setIfInBounds_toArray] | simp only [List.set_cons_zero] | simp only [List.set_cons_succ]))
                refine AnyL.one (i := 16) (by kernel_rfl) rfl (fun K hK => ?_)
                have y0 : w8.frozen? ⟨w.heap.size + 1, 0, none⟩ = false := by simp [World.frozen?, (HSS.out.next HB8.out).b1]
                have y1 : w8.frozen? ⟨w.heap.size + 1, 1, none⟩ = false := by simp [World.frozen?, (HSS.out.next HB8.out).b1]
                have y2 : w8.frozen? ⟨w.heap.size + 1, 2, none⟩ = false := by simp [World.frozen?, (HSS.out.next HB8.out).b1]
                have y3 : w8.frozen? ⟨w.heap.size + 1, 3, none⟩ = false := by simp [World.frozen?, (HSS.out.next HB8.out).b1]
                obtain ⟨-, g0, g1, g2, g3⟩ := (HSS.out.next HB8.out).cells
                go_simp
                refine hK.out _ _ (fun h => nomatch (show true = false from h)) (fun _ => ?_)
                clear hK K
                (try dsimp only)
                refine AnyL.done (by kernel_rfl) ?_
                obtain ⟨W9, hW9e⟩ : ∃ W9, W9 = ((((w8.setCell ⟨w.heap.size + 1, 0, none⟩ (.slice sA8 D2.sectors.length sc8)).setCell ⟨w.heap.size + 1, 1, none⟩ (.slice pA8 D2.pending.length pc8)).setCell ⟨w.heap.size + 1, 2, none⟩ (.int .i64 D2.left)).setCell ⟨w.heap.size + 1, 3, none⟩ (.bool D2.stopped)) := ⟨_, rfl⟩
                have HW9 := Lib.hid (show SyE w M l.many (some ⟨rb, ro, none⟩) rc sy l.recs D2 W9 by rw [hW9e]; exact ⟨_, _, _, _, (HSS.out.next HB8.out).store HD8.out⟩)
                have HK9 := Lib.hid (show BytesC W9 (Bx M w.heap.size 4) bA b from by
                  rw [hW9e]
                  exact (HB3.out.below HB8.out).keep fun p hp _ => (((((Off.refl (w.heap.size + 1) w8).setCell 0 _).setCell 1 _).setCell 2 _).setCell 3 _) p (fun e => by rcases hp with hb | hb <;> omega))
                rw [← hW9e]
                clear hW9e HD8 HM9 CWr CSe HPB HB8 HB9 hb1
                go_wp2_with fail
                go_roundw
                case rel => exact ⟨_, j + 1, by omega, rfl, rfl, Lib.hid (fun h => by have := HZ2.out (by omega); rw [this]; simp only [wrap64]; omega), HK9, Lib.hid (by rw [← HD2.out]; exact HW9.out)⟩
                case measure => simp [intOf]; omega
              · have hj3 : ¬ (j : Int) < (nb : Int) := by omega
                obtain rfl : j = nb := by omega
                have hx9 : used ((l.recs.drop sy).take (k + 1 - sy)) = m0 + j := by
                  obtain ⟨hi, hie⟩ := recs_at hk1 hkl
                  rw [show k + 1 - sy = (k - sy) + 1 by omega, used_take hi, hie, ← HBR.out, ← HNB.out, ← HM0.out]
                have HX9 := Lib.hid hx9
                clear hx9
                go_wp2_with fail
                go_roundw
                case rel => exact ⟨z, k + 1, by omega, by omega, rfl, rfl, Lib.hid (by rw [HX9.out]; exact HZ2.out), Lib.hid (by rw [HX9.out]; exact HE2.out)⟩
                case measure => simp [intOf]; omega
          · have hk3 : ¬ (k : Int) < (l.recs.length : Int) := by omega
            have hkf : k = l.recs.length := by omega
            have hfin : S.take (used ((l.recs.drop sy).take (k - sy))) = S := by
              rw [hkf, List.take_of_length_le (show (l.recs.drop sy).length ≤ l.recs.length - sy by rw [List.length_drop]; exact Nat.le_refl _), ← recsW_length g t0 (l.recs.drop sy), ← HSD.out, List.take_length]
            rw [hfin] at HSS
            clear HZ HE hfin hkf CS HE4 CU
            obtain ⟨E, cd, hEc⟩ : ∃ E cd, syncD (wroteOr d t0 S) = (E, cd) := ⟨_, _, rfl⟩
            rw [hEc] at HSP
            have CY := Lib.hid (refSync_any wx _ _ _ HSS.out.disk)
            rw [hEc] at CY
            clear hEc
            go_upto_region 29 with (go_at_call 48; refine CY.out.mono ?_; rintro e w5 ⟨v5, rfl, hd5, hb5⟩; have HS5 := Lib.hid (HSS.out.next hb5); have HD5 := Lib.hid (hd5.mono (M' := Bx M w.heap.size 4) fun q _ hq => Bx.new HSS.out.size hq); obtain ⟨sA5, sc5, pA5, pc5, rfl, -⟩ := hd5.parts; clear hd5 hb5)
            obtain ⟨W6, hW6⟩ : ∃ W6, W6 = w5.alloc (.cells #[.slice sA5 E.sectors.length sc5, .slice pA5 E.pending.length pc5, .int .i64 E.left, .bool E.stopped] 25) := ⟨_, rfl⟩
            have hB6 : Below w5.heap.size w5 W6 := by rw [hW6]; exact (Below.refl _ _).alloc (Nat.le_refl _) _
            have HS6 := Lib.hid (HS5.out.next hB6)
            have HD6 := Lib.hid (HD5.out.below hB6)
            have HX6 := Lib.hid (show W6.heap[w5.heap.size]? = some (.cells #[.slice sA5 E.sectors.length sc5, .slice pA5 E.pending.length pc5, .int .i64 E.left, .bool E.stopped] 25 (0, 0)) by rw [hW6]; exact heap_alloc_new _ _)
            have hz5 := HS5.out.size
            rw [← hW6]
            clear hW6 hB6 HS5 HD5 a0 a1 a2 c0 c1 c2 c3 HSS CY
            obtain ⟨⟨a0, a1, a2⟩, c0, c1, c2, c3⟩ := HS6.out.cells
            obtain ⟨⟨d0, d1, d2, d3⟩, -⟩ := blk4 (Below.refl _ _) HX6.out (lt_heap HX6.out)
            clear c0 c1 c2 c3
            have hf0 : W6.frozen? ⟨w.heap.size, 2, none⟩ = false := by simp [World.frozen?, HS6.out.b0]
            by_cases hcd : cd = 0
            · have hcb : (cd != 0) = false := by rw [bne_eq_false_iff_eq]; exact hcd
              have HSP2 := HSP.out
              rw [if_pos hcd] at HSP2
              replace HSP := Lib.hid HSP2
              clear HSP2
              go_wp2_with fail
              obtain ⟨W7, hW7⟩ : ∃ W7, W7 = W6.setCell ⟨w.heap.size, 2, none⟩ (.int .i64 (l.recs.length : Int)) := ⟨_, rfl⟩
              have HS7 := Lib.hid (show SyS w M l.many (some ⟨rb, ro, none⟩) rc l.recs.length l.recs _ _ _ _ _ W7 by rw [hW7]; exact HS6.out.mark l.recs.length)
              have HD7 := Lib.hid (show IsDisk W7 (Bx M w.heap.size 4) _ E by rw [hW7]; exact HD6.out.keep fun p hp _ => (Off.refl _ _).setCell 2 _ p (fun e => by rcases hp with hb | hb <;> omega))
              have hs5z : w5.heap.size < W7.heap.size := by rw [hW7, size_set]; exact lt_heap HX6.out
              have HX7 := Lib.hid (show W7.heap[w5.heap.size]? = some (.cells #[.slice sA5 E.sectors.length sc5, .slice pA5 E.pending.length pc5, .int .i64 E.left, .bool E.stopped] 25 (0, 0)) by rw [hW7, heap_set_if, if_neg (by omega)]; exact HX6.out)
              rw [← hW7]
              clear hW7 a0 a1 a2 d0 d1 d2 d3 hf0
              obtain ⟨⟨a0, a1, a2⟩, -⟩ := HS7.out.cells
              obtain ⟨⟨d0, d1, d2, d3⟩, -⟩ := blk4 (Below.refl _ _) HX7.out (lt_heap HX7.out)
              have r0 := cell_of (j := 0) HS7.out.b2 rfl
              have r1 := cell_of (j := 1) HS7.out.b2 rfl
              have r2 := cell_of (j := 2) HS7.out.b2 rfl
              have s0 := cell_of (j := 0) HS7.out.b3 rfl
              have s1 := cell_of (j := 1) HS7.out.b3 rfl
              have s2 := cell_of (j := 2) HS7.out.b3 rfl
              have s3 := cell_of (j := 3) HS7.out.b3 rfl
              have q0 : W7.frozen? ⟨w.heap.size + 1 + 1, 0, none⟩ = false := by simp [World.frozen?, HS7.out.b2]
              have q1 : W7.frozen? ⟨w.heap.size + 1 + 1, 1, none⟩ = false := by simp [World.frozen?, HS7.out.b2]
              have q2 : W7.frozen? ⟨w.heap.size + 1 + 1, 2, none⟩ = false := by simp [World.frozen?, HS7.out.b2]
              have p0 : W7.frozen? ⟨w.heap.size + 1 + 1 + 1, 0, none⟩ = false := by simp [World.frozen?, HS7.out.b3]
              have p1 : W7.frozen? ⟨w.heap.size + 1 + 1 + 1, 1, none⟩ = false := by simp [World.frozen?, HS7.out.b3]
              have p2 : W7.frozen? ⟨w.heap.size + 1 + 1 + 1, 2, none⟩ = false := by simp [World.frozen?, HS7.out.b3]
              have p3 : W7.frozen? ⟨w.heap.size + 1 + 1 + 1, 3, none⟩ = false := by simp [World.frozen?, HS7.out.b3]
              go_region_held3 (fun w' => (w'.cell? ⟨w.heap.size, 0, none⟩ = some (.int .i64 l.many) ∧ w'.cell? ⟨w.heap.size, 1, none⟩ = some (.slice (some ⟨rb, ro, none⟩) l.recs.length rc) ∧ w'.cell? ⟨w.heap.size, 2, none⟩ = some (.int .i64 (l.recs.length : Int))) ∧ w'.cell? ⟨w5.heap.size, 0, none⟩ = some (.slice sA5 E.sectors.length sc5) ∧ w'.cell? ⟨w5.heap.size, 1, none⟩ = some (.slice pA5 E.pending.length pc5) ∧ w'.cell? ⟨w5.heap.size, 2, none⟩ = some (.int .i64 E.left) ∧ w'.cell? ⟨w5.heap.size, 3, none⟩ = some (.bool E.stopped)) (first | with_reducible exact ⟨⟨a0, a1, a2⟩, d0, d1, d2, d3⟩ | (refine ⟨⟨?_, ?_, ?_⟩, ?_, ?_, ?_, ?_⟩ <;> (repeat (first | with_reducible assumption | with_reducible refine cell_dr ?_ | with_reducible refine cell_off (by simp <;> omega) ?_)))) (first | fail)
              all_goals go_wp2_with fail
              all_goals
                obtain ⟨W', hW'⟩ : ∃ W', W' = _ := ⟨_, rfl⟩
                obtain ⟨⟨⟨k0, k1, k2⟩, k3, k4, k5, k6⟩, hl9, hd9, hb9⟩ := HS7.out.ret (L := ⟨l.many, l.recs, l.recs.length⟩) (E := E) ⟨_, rfl, some ⟨rb, ro, none⟩, rc, rfl, hr1, hr2, HS7.out.mat⟩ HD7.out hW'
                rw [← hW']
                refine bodyPost_ret (v := .tuple #[.agg #[.int .i64 l.many, .slice (some ⟨rb, ro, none⟩) l.recs.length rc, .int .i64 (l.recs.length : Int)], .agg #[.slice sA5 E.sectors.length sc5, .slice pA5 E.pending.length pc5, .int .i64 E.left, .bool E.stopped], .int .i64 0]) (by simp [results, Try.results22, go_sem, cell_dr k0, cell_dr k1, cell_dr k2, cell_dr k3, cell_dr k4, cell_dr k5, cell_dr k6]) rfl (RetSync.mk (hl9.keep fun _ _ _ => rfl) (hd9.keep fun _ _ _ => rfl) hb9.drew HSP.out)
            · have hcb : (cd != 0) = true := by rw [bne_iff_ne]; exact hcd
              have HSP2 := HSP.out
              rw [if_neg hcd] at HSP2
              replace HSP := Lib.hid HSP2
              clear HSP2
              have r0 := cell_of (j := 0) HS6.out.b2 rfl
              have r1 := cell_of (j := 1) HS6.out.b2 rfl
              have r2 := cell_of (j := 2) HS6.out.b2 rfl
              have s0 := cell_of (j := 0) HS6.out.b3 rfl
              have s1 := cell_of (j := 1) HS6.out.b3 rfl
              have s2 := cell_of (j := 2) HS6.out.b3 rfl
              have s3 := cell_of (j := 3) HS6.out.b3 rfl
              have q0 : W6.frozen? ⟨w.heap.size + 1 + 1, 0, none⟩ = false := by simp [World.frozen?, HS6.out.b2]
              have q1 : W6.frozen? ⟨w.heap.size + 1 + 1, 1, none⟩ = false := by simp [World.frozen?, HS6.out.b2]
              have q2 : W6.frozen? ⟨w.heap.size + 1 + 1, 2, none⟩ = false := by simp [World.frozen?, HS6.out.b2]
              have p0 : W6.frozen? ⟨w.heap.size + 1 + 1 + 1, 0, none⟩ = false := by simp [World.frozen?, HS6.out.b3]
              have p1 : W6.frozen? ⟨w.heap.size + 1 + 1 + 1, 1, none⟩ = false := by simp [World.frozen?, HS6.out.b3]
              have p2 : W6.frozen? ⟨w.heap.size + 1 + 1 + 1, 2, none⟩ = false := by simp [World.frozen?, HS6.out.b3]
              have p3 : W6.frozen? ⟨w.heap.size + 1 + 1 + 1, 3, none⟩ = false := by simp [World.frozen?, HS6.out.b3]
              have hs5z := lt_heap HX6.out
              go_wp2_with fail
              go_region_held3 (fun w' => w'.cell? ⟨w5.heap.size, 0, none⟩ = some (.slice sA5 E.sectors.length sc5) ∧ w'.cell? ⟨w5.heap.size, 1, none⟩ = some (.slice pA5 E.pending.length pc5) ∧ w'.cell? ⟨w5.heap.size, 2, none⟩ = some (.int .i64 E.left) ∧ w'.cell? ⟨w5.heap.size, 3, none⟩ = some (.bool E.stopped)) (first | with_reducible exact ⟨d0, d1, d2, d3⟩ | (refine ⟨?_, ?_, ?_, ?_⟩ <;> (repeat (first | with_reducible assumption | with_reducible refine cell_dr ?_ | with_reducible refine cell_off (by simp <;> omega) ?_)))) (first | fail)
              all_goals go_wp2_with fail
              all_goals
                obtain ⟨W', hW'⟩ : ∃ W', W' = _ := ⟨_, rfl⟩
                obtain ⟨⟨⟨k0, k1, k2⟩, k3, k4, k5, k6⟩, hl9, hd9, hb9⟩ := HS6.out.ret (L := zeroL) (E := E) IsLog.zero HD6.out hW'
                rw [← hW']
                refine bodyPost_ret (v := .tuple #[.agg #[.int .i64 0, .slice none 0 0, .int .i64 0], .agg #[.slice sA5 E.sectors.length sc5, .slice pA5 E.pending.length pc5, .int .i64 E.left, .bool E.stopped], .int .i64 cd]) (by simp [results, Try.results22, go_sem, cell_dr k0, cell_dr k1, cell_dr k2, cell_dr k3, cell_dr k4, cell_dr k5, cell_dr k6]) rfl (RetSync.mk (hl9.keep fun _ _ _ => rfl) (hd9.keep fun _ _ _ => rfl) hb9.drew HSP.out)
    · have hc2 : u66 = .bool true := by
        rw [hc]
        congr 1
        by_cases h1 : recs d.sectors = l.recs.take sy
        · rw [decide_eq_true h1, decide_eq_true (Decidable.byContradiction fun h => hbad ⟨h1, h⟩)]; rfl
        · rw [decide_eq_false h1]; rfl
      have HS := Lib.hid (HSP.out.trans (if_pos (by
        rw [← HG.out]
        by_cases h1 : recs d.sectors = l.recs.take sy
        · exact .inr (Decidable.byContradiction fun h => hbad ⟨h1, h⟩)
        · exact .inl h1)))
      subst hc2
      clear hc hbad
      go_wp2_with fail
      refine bodyPost_ret (v := .tuple #[.agg #[.int .i64 0, .slice none 0 0, .int .i64 0], .agg #[.slice none 0 0, .slice none 0 0, .int .i64 0, .bool false], .int .i64 350]) (by simp [results, Try.results22, go_sem, r0, r1, r2, s0, s1, s2, s3]) rfl (RetSync.mk IsLog.zero IsDisk.zero ?_ HS.out)
      refine Below.setCell (Below.setCell (Below.setCell (Below.setCell (Below.setCell (Below.setCell (Below.setCell HS4.out.below ?_ _) ?_ _) ?_ _) ?_ _) ?_ _) ?_ _) ?_ _ <;> (simp; try omega)
end Go.Proofs.Ytocjhepiooljpaa
