/- cuts of the reference. -/
import Derived.Test.YthlnfjbedehjdaaZh
import Derived.Test.YthlnfjbedehjdaaC6
import Derived.BigQuiet
namespace Go.Proofs.Ythlnfjbedehjdaa
open Go.RowKit Go.Deep Go.Shelf

/-- the first k cuts are those of the sets, and fit -/
def cutsOk (q : RaceD) (certain : Bool) (cs : List CutD) (R : List (List Int)) (k : Nat) : Prop := ∀ i, i < k → (cutN cs i).free = R.getD i [] ∧ fitsB q certain (cutN cs i) = true
theorem cutsOk_zero {q : RaceD} {certain : Bool} {cs : List CutD} {R : List (List Int)} : cutsOk q certain cs R 0 := fun _ h => absurd h (by omega)
theorem cutsOk_succ {q : RaceD} {certain : Bool} {cs : List CutD} {R : List (List Int)} {k : Nat} (h : cutsOk q certain cs R k) (h1 : (cutN cs k).free = R.getD k []) (h2 : fitsB q certain (cutN cs k) = true) : cutsOk q certain cs R (k + 1) := fun j hj => by
  rcases Nat.lt_or_ge j k with h3 | h3
  · exact h j h3
  · rw [show j = k by omega]; exact ⟨h1, h2⟩
section
variable {q : RaceD} {certain : Bool} {cs : List CutD} {R : List (List Int)}
theorem cutsB_len (hR : R = comb (rivR q) (sizeK q certain).toNat) (h : R.length ≠ cs.length) : cutsB q certain cs = false := by
  unfold cutsB
  rw [decide_eq_false (fun e => h (by rw [hR, ← e, List.length_map])), Bool.false_and]
theorem cutsB_free (hR : R = comb (rivR q) (sizeK q certain).toNat) {k : Nat} (hk : k < cs.length) (h : (cutN cs k).free ≠ R.getD k []) : cutsB q certain cs = false := by
  unfold cutsB
  rw [decide_eq_false (fun e => h ?_), Bool.false_and]
  rw [hR, ← e, List.getD_eq_getElem?_getD, List.getElem?_map, List.getElem?_eq_getElem hk, cutN_get hk]; rfl
theorem cutsB_fit {k : Nat} (hk : k < cs.length) (h : fitsB q certain (cutN cs k) = false) : cutsB q certain cs = false := by
  unfold cutsB
  rw [show cs.all (fitsB q certain) = false from ?_, Bool.and_false]
  rw [List.all_eq_false]
  exact ⟨cs[k], List.getElem_mem hk, by rw [← cutN_get hk, h]; simp⟩
theorem cutsB_all (hR : R = comb (rivR q) (sizeK q certain).toNat) (hl : R.length = cs.length) (h : cutsOk q certain cs R cs.length) : cutsB q certain cs = true := by
  unfold cutsB
  rw [decide_eq_true, Bool.true_and, List.all_eq_true]
  · intro c hc
    obtain ⟨i, hi, rfl⟩ := List.getElem_of_mem hc
    have := (h i hi).2
    rwa [cutN_get hi] at this
  · rw [← hR]
    apply List.ext_getElem (by rw [List.length_map, hl])
    intro i h1 h2
    rw [List.length_map] at h1
    have := (h i h1).1
    rw [cutN_get h1, List.getD_eq_getElem?_getD, List.getElem?_eq_getElem h2] at this
    rw [List.getElem_map, this]; rfl
end
set_option maxRecDepth 20000 in
set_option maxHeartbeats 8000000 in
theorem rcuts_any (w : World) (M M' : Nat → Prop) (v u : Value) (q : RaceD) (certain : Bool) (cs : List CutD) (h : IsRace w M v q) (h' : IsCuts w M' u cs) (hv : ValidR q) (h6 : q.clubs.length ≤ 6) (hc : cs.length ≤ 1000000) (hl : ∀ c ∈ cs, c.free.length ≤ 140737488355328 ∧ c.clubs.length ≤ 140737488355328) :
    Calls Try.prog 65 #[v, .bool certain, u] w fun e w' => e = .returned (.bool (cutsB q certain cs)) ∧ Below w.heap.size w w' := by
  have hp1 := hv.size.p1
  have hp6 : q.place ≤ 6 := by have := hv.size.pn; omega
  obtain ⟨many, hmany⟩ : ∃ many : Nat, sizeK q certain = (many : Int) := ⟨(sizeK q certain).toNat, by unfold sizeK; split <;> omega⟩
  have hm6 : many ≤ 6 := by unfold sizeK at hmany; split at hmany <;> omega
  have HM := Lib.hid hmany
  have HR := Lib.hid h
  have HU := Lib.hid h'
  have HV := Lib.hid hv
  have HLEN := Lib.hid hl
  obtain ⟨cA, cc, pA, pc, oA, oc, rfl, -⟩ := h.parts
  obtain ⟨lA, lc, rfl, hl1, hl2⟩ := h'.len
  obtain ⟨R, hR⟩ : ∃ R, R = comb (rivFr q 0) many := ⟨_, rfl⟩
  have HRE := Lib.hid hR
  have HRC := Lib.hid (show R = comb (rivR q) (sizeK q certain).toNat by rw [hR, rivFr_zero, hmany]; rfl)
  have hRl : R.length ≤ 64 := by rw [hR]; exact comb_few64 many 0 h6
  obtain ⟨z, hz⟩ : ∃ z, z = cutsB q certain cs := ⟨_, rfl⟩
  have HZ := Lib.hid hz
  have CS := Lib.hid (fun (W : World) (hB : Below w.heap.size w W) => Lib.hid (show Calls Try.prog 84 _ W (SetsW W R) by
    have x := rsets_any q h6 many W M _ 0 (h.below hB) (Nat.zero_le _) (by omega)
    rw [← hR] at x; exact x))
  rw [← hz]
  obtain ⟨nl, hnl⟩ : ∃ nl, nl = cs.length := ⟨_, rfl⟩
  have HNL := Lib.hid hnl
  rw [← hnl] at hl1 hc ⊢
  clear h h' hv hl hmany hz hR h6 hnl hl1 hl2
  go_enter Try.func65, Try.ntmps65
  go_upto_region 1 with fail
  refine nameC fun W1 hW1 => ?_
  have hb1 : Below w.heap.size w W1 := by rw [hW1.out]; exact (Below.refl _ _).alloc (Nat.le_refl _) _
  have k0 : W1.heap[w.heap.size]? = some (.cells #[.int .i64 q.win, .int .i64 q.draw, .slice cA q.clubs.length cc, .slice pA q.points.length pc, .slice oA q.opn.length oc, .int .i64 q.club, .int .i64 q.place] 25 (0, 0)) := by rw [hW1.out]; exact heap_alloc_new _ _
  have HC := Lib.hid (show ∀ W', Below W1.heap.size W1 W' → (W'.cell? ⟨w.heap.size, 0, none⟩ = some (.int .i64 q.win) ∧ W'.cell? ⟨w.heap.size, 1, none⟩ = some (.int .i64 q.draw) ∧ W'.cell? ⟨w.heap.size, 2, none⟩ = some (.slice cA q.clubs.length cc) ∧ W'.cell? ⟨w.heap.size, 3, none⟩ = some (.slice pA q.points.length pc) ∧ W'.cell? ⟨w.heap.size, 4, none⟩ = some (.slice oA q.opn.length oc) ∧ W'.cell? ⟨w.heap.size, 5, none⟩ = some (.int .i64 q.club) ∧ W'.cell? ⟨w.heap.size, 6, none⟩ = some (.int .i64 q.place)) from fun W' h => by
    have e0 := (h.block _ (lt_heap k0)).trans k0
    exact ⟨cell_of e0 rfl, cell_of e0 rfl, cell_of e0 rfl, cell_of e0 rfl, cell_of e0 rfl, cell_of e0 rfl, cell_of e0 rfl⟩)
  have HB1 := Lib.hid hb1
  clear hW1 hb1 k0
  obtain ⟨r0, r1, r2, r3, r4, r5, r6⟩ := HC.out _ (Below.refl _ _)
  go_upto_if 13 with fail
  go_cut [7] (fun s7 W => s7 = .int .i64 (many : Int) ∧ Hid (Below W1.heap.size W1 W))
  case first =>
    cases certain
    · have HQ := Lib.hid (show (many : Int) = q.place - 1 from HM.out.symm)
      go_wp2_with fail
      go_meet
      case rel => exact ⟨by rw [HQ.out], Lib.hid (by repeat (first | with_reducible exact Below.refl _ _ | (with_reducible refine Below.drew ?_)))⟩
    · have HQ := Lib.hid (show (many : Int) = q.place from HM.out.symm)
      go_wp2_with fail
      go_meet
      case rel => exact ⟨by rw [HQ.out], Lib.hid (by repeat (first | with_reducible exact Below.refl _ _ | (with_reducible refine Below.drew ?_)))⟩
  case rest =>
    obtain ⟨rfl, HB⟩ := hcut
    clear r0 r1 r2 r3 r4 r5 r6
    obtain ⟨r0, r1, r2, r3, r4, r5, r6⟩ := HC.out _ HB.out
    go_wp2_with fail
    refine (CS.out _ (HB1.out.trans ((show Below W1.heap.size W1 _ from (by repeat (first | with_reducible exact HB.out | (with_reducible refine Below.drew ?_)))).mono HB1.out.size))).out.mono ?_
    rintro e W3 ⟨A3, c3, rfl, hrows, hb3⟩
    have HR3 := Lib.hid hrows
    have HB3 := Lib.hid (HB.out.trans (hb3.mono HB.out.size))
    clear r0 r1 r2 r3 r4 r5 r6 hrows hb3 HB CS
    by_cases hlen : R.length = nl
    case neg =>
      have t1 : ((R.length : Int) == (nl : Int)) = false := by rw [beq_eq_false_iff_ne]; omega
      have t2 : ((R.length : Int) != (nl : Int)) = true := by rw [bne_iff_ne]; omega
      have HQ := Lib.hid (show z = false by rw [HZ.out]; exact cutsB_len HRC.out (by rw [← HNL.out]; exact hlen))
      clear hlen
      go_wp2_with fail
      go_ret
      exact ⟨ret_bool HQ.out.symm, HB1.out.trans ((show Below W1.heap.size W1 _ from (by repeat (first | with_reducible exact HB3.out | (with_reducible refine Below.drew ?_)))).mono HB1.out.size)⟩
    have t1 : ((R.length : Int) == (nl : Int)) = true := by rw [beq_iff_eq]; omega
    have t2 : ((R.length : Int) != (nl : Int)) = false := by rw [bne_eq_false_iff_eq]; omega
    have HLR := Lib.hid hlen
    clear hlen
    go_wp2_with fail
    go_loopw [9] (fun s9 wr => ∃ k : Nat, k ≤ nl ∧ s9 = .int .i64 (k : Int) ∧ Hid (cutsOk q certain cs R k) ∧ Hid (Below W3.heap.size W3 wr)) (fun s9 _ => nl - (intOf s9).toNat)
    case atStart => exact ⟨0, Nat.zero_le _, rfl, Lib.hid cutsOk_zero, Lib.hid (by repeat (first | with_reducible exact Below.refl _ _ | (with_reducible refine Below.drew ?_)))⟩
    case round =>
      obtain ⟨k, hk, rfl, HT, HB4⟩ := hrel
      have HBR := Lib.hid (HB3.out.trans (HB4.out.mono HB3.out.size))
      have HBF := Lib.hid (HB1.out.trans (HBR.out.mono HB1.out.size))
      by_cases hlt : k < nl
      · have hkI : (k : Int) < (nl : Int) := by omega
        have hk0 : (0 : Int) ≤ (k : Int) := by omega
        have hkR : (k : Int) < (R.length : Int) := by rw [HLR.out]; exact hkI
        have hkR2 : k < R.length := by rw [HLR.out]; exact hlt
        have hcl : k < cs.length := by rw [← HNL.out]; exact hlt
        obtain ⟨A', c', e, -, -, h4⟩ := HU.out.below HBF.out
        obtain ⟨rfl, -, rfl⟩ := Value.slice.inj e
        obtain ⟨lb, lo, rfl, h5⟩ := h4 (by omega)
        obtain ⟨fA, fc, uA, uc, gA, gc, q1, q2, q3, q4, q5, q6⟩ := h5.at_ k hcl
        have HG := Lib.hid (show ∀ W', Below wr.heap.size wr W' → (W'.cell? ⟨lb, lo + k * 3, none⟩ = some (.slice fA (cutN cs k).free.length fc) ∧ W'.cell? ⟨lb, lo + k * 3 + 1, none⟩ = some (.slice uA (cutN cs k).clubs.length uc) ∧ W'.cell? ⟨lb, lo + k * 3 + 2, none⟩ = some (.slice gA (cutN cs k).games.length gc)) from fun W' hh => ⟨(hh.cell (p := ⟨lb, lo + k * 3, none⟩) (lt_of_cell q1)).trans q1, (hh.cell (p := ⟨lb, lo + k * 3 + 1, none⟩) (lt_of_cell q2)).trans q2, (hh.cell (p := ⟨lb, lo + k * 3 + 2, none⟩) (lt_of_cell q3)).trans q3⟩)
        have HCW := Lib.hid (show ∀ W', Below wr.heap.size wr W' → (W'.cell? ⟨w.heap.size, 0, none⟩ = some (.int .i64 q.win) ∧ W'.cell? ⟨w.heap.size, 1, none⟩ = some (.int .i64 q.draw) ∧ W'.cell? ⟨w.heap.size, 2, none⟩ = some (.slice cA q.clubs.length cc) ∧ W'.cell? ⟨w.heap.size, 3, none⟩ = some (.slice pA q.points.length pc) ∧ W'.cell? ⟨w.heap.size, 4, none⟩ = some (.slice oA q.opn.length oc) ∧ W'.cell? ⟨w.heap.size, 5, none⟩ = some (.int .i64 q.club) ∧ W'.cell? ⟨w.heap.size, 6, none⟩ = some (.int .i64 q.place)) from fun W' hh => HC.out W' (HBR.out.trans (hh.mono HBR.out.size)))
        obtain ⟨gr, Aj, cj, rfl, hcj, hTj⟩ := HR3.out.at_ HB4.out hkR2
        have HRW := Lib.hid (show ∀ W', Below wr.heap.size wr W' → W'.cell? ⟨gr, k, none⟩ = some (.slice Aj (R.getD k []).length cj) from fun W' hh => (hh.cell (p := ⟨gr, k, none⟩) (lt_of_cell hcj)).trans hcj)
        obtain ⟨hl1, hl2⟩ := HLEN.out _ (List.getElem_mem hcl)
        rw [← cutN_get hcl] at hl1 hl2
        have CE := Lib.hid (show ∀ W', Below wr.heap.size wr W' → _ from fun W' hh => rsame_any W' M' _ _ _ (cutN cs k).free (R.getD k []) (IsSl.below q4 hh) (hTj.below hh) hl1)
        have CF := Lib.hid (show ∀ W', Below wr.heap.size wr W' → _ from fun W' hh => rfits_any W' M M' _ _ q certain (cutN cs k) (HR.out.below (HBF.out.trans (hh.mono HBF.out.size))) ⟨_, _, _, rfl, IsSl.below q4 hh, IsSl.below q5 hh, IsSl.below q6 hh⟩ HV.out hl1 hl2)
        obtain ⟨eq, heq⟩ : ∃ eq, eq = ((cutN cs k).free == R.getD k []) := ⟨_, rfl⟩
        obtain ⟨ft, hft⟩ : ∃ ft, ft = fitsB q certain (cutN cs k) := ⟨_, rfl⟩
        rw [← heq] at CE
        rw [← hft] at CF
        have HEQ := Lib.hid heq
        have HFT := Lib.hid hft
        have HCL := Lib.hid hcl
        clear h4 h5 e q1 q2 q3 q4 q5 q6 hcj hTj hl1 hl2 heq hft hcl hkR2
        go_upto_region 10 with fail
        go_cut [50] (fun c W => c = .bool (!(eq && ft)) ∧ Hid (Below wr.heap.size wr W))
        case first =>
          cases eq
          · skip
            refine wp_region_held_drew (S := fun W9 => Below wr.heap.size wr W9) (by kernel_rfl) (Below.drew (Below.refl _ _)) (fun hHeld => ?_)
            change wpAnyH _ _ _ _ _ 21 #[false, false, false, false, false, false, false, false, false, false, false, false, false, false, false, false, false, false, false, false, false] _ wr.drew
            refine takeD (i := 0) (d := some 30) (v := ?_) rfl rfl (by kernel_rfl) (by kernel_rfl) (by kernel_rfl) (fun _ _ _ h => h) (Or.inl ⟨by rfl, ?_⟩) hHeld ?_
            rotate_left 1
            focus (intro w hSw; (try dsimp only at hSw); go_simp; (try with_reducible rfl))
            (repeat (first | simp only [Act.put] | simp only [List.setIfInBounds_toArray] | simp only [List.set_cons_zero] | simp only [List.set_cons_succ]))
            refine takeD (i := 1) (d := some 31) (v := ?_) rfl rfl (by kernel_rfl) (by kernel_rfl) (by kernel_rfl) (fun _ _ _ h => h) (Or.inl ⟨by rfl, ?_⟩) hHeld ?_
            rotate_left 1
            focus (intro w hSw; (try dsimp only at hSw); go_simp; (try with_reducible rfl))
            (repeat (first | simp only [Act.put] | simp only [List.setIfInBounds_toArray] | simp only [List.set_cons_zero] | simp only [List.set_cons_succ]))
            refine takeD (i := 2) (d := some 32) (v := ?_) rfl rfl (by kernel_rfl) (by kernel_rfl) (by kernel_rfl) (fun _ _ _ h => h) (Or.inl ⟨by rfl, ?_⟩) hHeld ?_
            rotate_left 1
            focus (intro w hSw; (try dsimp only at hSw); go_simp; (try with_reducible rfl))
            (repeat (first | simp only [Act.put] | simp only [List.setIfInBounds_toArray] | simp only [List.set_cons_zero] | simp only [List.set_cons_succ]))
            refine takeD (i := 3) (d := some 33) (v := ?_) rfl rfl (by kernel_rfl) (by kernel_rfl) (by kernel_rfl) (fun _ _ _ h => h) (Or.inl ⟨by rfl, ?_⟩) hHeld ?_
            rotate_left 1
            focus (intro w hSw; (try dsimp only at hSw); go_simp; (try with_reducible rfl))
            (repeat (first | simp only [Act.put] | simp only [List.setIfInBounds_toArray] | simp only [List.set_cons_zero] | simp only [List.set_cons_succ]))
            refine takeD (i := 4) (d := some 34) (v := ?_) rfl rfl (by kernel_rfl) (by kernel_rfl) (by kernel_rfl) (fun _ _ _ h => h) (Or.inl ⟨by rfl, ?_⟩) hHeld ?_
            rotate_left 1
            focus (intro w hSw; (try dsimp only at hSw); obtain ⟨e0, e1, e2, e3, e4, e5, e6⟩ := HCW.out w hSw; obtain ⟨g0, g1, g2⟩ := HG.out w hSw; have g3 := HRW.out w hSw; go_simp; (try with_reducible rfl))
            (repeat (first | simp only [Act.put] | simp only [List.setIfInBounds_toArray] | simp only [List.set_cons_zero] | simp only [List.set_cons_succ]))
            refine takeD (i := 5) (d := some 35) (v := ?_) rfl rfl (by kernel_rfl) (by kernel_rfl) (by kernel_rfl) (fun _ _ _ h => h) (Or.inl ⟨by rfl, ?_⟩) hHeld ?_
            rotate_left 1
            focus (intro w hSw; (try dsimp only at hSw); go_simp; (try with_reducible rfl))
            (repeat (first | simp only [Act.put] | simp only [List.setIfInBounds_toArray] | simp only [List.set_cons_zero] | simp only [List.set_cons_succ]))
            refine takeD (i := 6) (d := some 36) (v := ?_) rfl rfl (by kernel_rfl) (by kernel_rfl) (by kernel_rfl) (fun _ _ _ h => h) (Or.inl ⟨by rfl, ?_⟩) hHeld ?_
            rotate_left 1
            focus (intro w hSw; (try dsimp only at hSw); go_simp; (try with_reducible rfl))
            (repeat (first | simp only [Act.put] | simp only [List.setIfInBounds_toArray] | simp only [List.set_cons_zero] | simp only [List.set_cons_succ]))
            refine takeD (i := 7) (d := some 37) (v := ?_) rfl rfl (by kernel_rfl) (by kernel_rfl) (by kernel_rfl) (fun _ _ _ h => h) (Or.inl ⟨by rfl, ?_⟩) hHeld ?_
            rotate_left 1
            focus (intro w hSw; (try dsimp only at hSw); go_simp; (try with_reducible rfl))
            (repeat (first | simp only [Act.put] | simp only [List.setIfInBounds_toArray] | simp only [List.set_cons_zero] | simp only [List.set_cons_succ]))
            refine takeD (i := 8) (d := some 38) (v := ?_) rfl rfl (by kernel_rfl) (by kernel_rfl) (by kernel_rfl) (fun _ _ _ h => h) (Or.inl ⟨by rfl, ?_⟩) hHeld ?_
            rotate_left 1
            focus (intro w hSw; (try dsimp only at hSw); obtain ⟨e0, e1, e2, e3, e4, e5, e6⟩ := HCW.out w hSw; obtain ⟨g0, g1, g2⟩ := HG.out w hSw; have g3 := HRW.out w hSw; go_simp; (try with_reducible rfl))
            (repeat (first | simp only [Act.put] | simp only [List.setIfInBounds_toArray] | simp only [List.set_cons_zero] | simp only [List.set_cons_succ]))
            refine wpAnyH_ready (rs := [9]) (by kernel_rfl) (by simp) ?_
            refine AllReadyH.cons rfl (fun K hK => ?_) AllReadyH.nil
            go_simp
            go_at_call 60
            refine (CE.out _ (by repeat (first | with_reducible exact Below.refl _ _ | with_reducible exact HB9.out | (with_reducible refine Below.drew ?_)))).mono ?_
            rintro e w9 ⟨rfl, hb9⟩
            have HB9 : Hid (Below wr.heap.size wr w9) := Lib.hid ((show Below wr.heap.size wr _ from (by repeat (first | with_reducible exact Below.refl _ _ | with_reducible exact HB9.out | (with_reducible refine Below.drew ?_)))).trans (hb9.mono (show wr.heap.size ≤ _ from (show Below wr.heap.size wr _ from (by repeat (first | with_reducible exact Below.refl _ _ | with_reducible exact HB9.out | (with_reducible refine Below.drew ?_)))).size)))
            clear hb9
            refine hK.out _ _ ((by repeat (first | with_reducible exact Below.refl _ _ | with_reducible exact HB9.out | (with_reducible refine Below.drew ?_)))) (fun hHeld => ?_)
            clear hK K
            (repeat (first | simp only [Act.put] | simp only [List.setIfInBounds_toArray] | simp only [List.set_cons_zero] | simp only [List.set_cons_succ]))
            refine takeD (i := 10) (d := some 40) (v := ?_) rfl rfl (by kernel_rfl) (by kernel_rfl) (by kernel_rfl) (fun _ _ _ h => h) (Or.inl ⟨by rfl, ?_⟩) hHeld ?_
            rotate_left 1
            focus (intro w hSw; (try dsimp only at hSw); go_simp; (try with_reducible rfl))
            (repeat (first | simp only [Act.put] | simp only [List.setIfInBounds_toArray] | simp only [List.set_cons_zero] | simp only [List.set_cons_succ]))
            refine takeD (i := 11) (d := some 41) (v := ?_) rfl rfl (by kernel_rfl) (by kernel_rfl) (by kernel_rfl) (fun _ _ _ h => h) (Or.inl ⟨by rfl, ?_⟩) hHeld ?_
            rotate_left 1
            focus (intro w hSw; (try dsimp only at hSw); go_simp; (try with_reducible rfl))
            (repeat (first | simp only [Act.put] | simp only [List.setIfInBounds_toArray] | simp only [List.set_cons_zero] | simp only [List.set_cons_succ]))
            refine takeD (i := 12) (d := some 42) (v := undef) rfl rfl (by kernel_rfl) (by kernel_rfl) (by kernel_rfl) (fun _ _ _ h => h) (Or.inr ⟨by rfl, rfl⟩) hHeld ?_
            (repeat (first | simp only [Act.put] | simp only [List.setIfInBounds_toArray] | simp only [List.set_cons_zero] | simp only [List.set_cons_succ]))
            refine takeD (i := 13) (d := some 43) (v := undef) rfl rfl (by kernel_rfl) (by kernel_rfl) (by kernel_rfl) (fun _ _ _ h => h) (Or.inr ⟨by rfl, rfl⟩) hHeld ?_
            (repeat (first | simp only [Act.put] | simp only [List.setIfInBounds_toArray] | simp only [List.set_cons_zero] | simp only [List.set_cons_succ]))
            refine takeD (i := 14) (d := some 44) (v := undef) rfl rfl (by kernel_rfl) (by kernel_rfl) (by kernel_rfl) (fun _ _ _ h => h) (Or.inr ⟨by rfl, rfl⟩) hHeld ?_
            (repeat (first | simp only [Act.put] | simp only [List.setIfInBounds_toArray] | simp only [List.set_cons_zero] | simp only [List.set_cons_succ]))
            refine takeD (i := 15) (d := some 45) (v := undef) rfl rfl (by kernel_rfl) (by kernel_rfl) (by kernel_rfl) (fun _ _ _ h => h) (Or.inr ⟨by rfl, rfl⟩) hHeld ?_
            (repeat (first | simp only [Act.put] | simp only [List.setIfInBounds_toArray] | simp only [List.set_cons_zero] | simp only [List.set_cons_succ]))
            refine takeD (i := 16) (d := some 46) (v := undef) rfl rfl (by kernel_rfl) (by kernel_rfl) (by kernel_rfl) (fun _ _ _ h => h) (Or.inr ⟨by rfl, rfl⟩) hHeld ?_
            (repeat (first | simp only [Act.put] | simp only [List.setIfInBounds_toArray] | simp only [List.set_cons_zero] | simp only [List.set_cons_succ]))
            refine takeD (i := 17) (d := some 47) (v := undef) rfl rfl (by kernel_rfl) (by kernel_rfl) (by kernel_rfl) (fun _ _ _ h => h) (Or.inr ⟨by rfl, rfl⟩) hHeld ?_
            (repeat (first | simp only [Act.put] | simp only [List.setIfInBounds_toArray] | simp only [List.set_cons_zero] | simp only [List.set_cons_succ]))
            refine takeD (i := 18) (d := some 48) (v := undef) rfl rfl (by kernel_rfl) (by kernel_rfl) (by kernel_rfl) (fun _ _ _ h => h) (Or.inr ⟨by rfl, rfl⟩) hHeld ?_
            (repeat (first | simp only [Act.put] | simp only [List.setIfInBounds_toArray] | simp only [List.set_cons_zero] | simp only [List.set_cons_succ]))
            refine takeD (i := 19) (d := some 49) (v := undef) rfl rfl (by kernel_rfl) (by kernel_rfl) (by kernel_rfl) (fun _ _ _ h => h) (Or.inr ⟨by rfl, rfl⟩) hHeld ?_
            (repeat (first | simp only [Act.put] | simp only [List.setIfInBounds_toArray] | simp only [List.set_cons_zero] | simp only [List.set_cons_succ]))
            refine takeD (i := 20) (d := some 50) (v := ?_) rfl rfl (by kernel_rfl) (by kernel_rfl) (by kernel_rfl) (fun _ _ _ h => h) (Or.inl ⟨by rfl, ?_⟩) hHeld ?_
            rotate_left 1
            focus (intro w hSw; (try dsimp only at hSw); go_simp; (try with_reducible rfl))
            (repeat (first | simp only [Act.put] | simp only [List.setIfInBounds_toArray] | simp only [List.set_cons_zero] | simp only [List.set_cons_succ]))
            refine wpAnyH_done (by kernel_rfl) ?_ _
            go_wp2_with fail
            go_meet
            case rel => exact ⟨by first | rfl | (cases ft <;> rfl), Lib.hid (by repeat (first | with_reducible exact HB9.out | (with_reducible refine Below.drew ?_)))⟩
          · skip
            refine wp_region_held_drew (S := fun W9 => Below wr.heap.size wr W9) (by kernel_rfl) (Below.drew (Below.refl _ _)) (fun hHeld => ?_)
            change wpAnyH _ _ _ _ _ 21 #[false, false, false, false, false, false, false, false, false, false, false, false, false, false, false, false, false, false, false, false, false] _ wr.drew
            refine takeD (i := 0) (d := some 30) (v := ?_) rfl rfl (by kernel_rfl) (by kernel_rfl) (by kernel_rfl) (fun _ _ _ h => h) (Or.inl ⟨by rfl, ?_⟩) hHeld ?_
            rotate_left 1
            focus (intro w hSw; (try dsimp only at hSw); go_simp; (try with_reducible rfl))
            (repeat (first | simp only [Act.put] | simp only [List.setIfInBounds_toArray] | simp only [List.set_cons_zero] | simp only [List.set_cons_succ]))
            refine takeD (i := 1) (d := some 31) (v := ?_) rfl rfl (by kernel_rfl) (by kernel_rfl) (by kernel_rfl) (fun _ _ _ h => h) (Or.inl ⟨by rfl, ?_⟩) hHeld ?_
            rotate_left 1
            focus (intro w hSw; (try dsimp only at hSw); go_simp; (try with_reducible rfl))
            (repeat (first | simp only [Act.put] | simp only [List.setIfInBounds_toArray] | simp only [List.set_cons_zero] | simp only [List.set_cons_succ]))
            refine takeD (i := 2) (d := some 32) (v := ?_) rfl rfl (by kernel_rfl) (by kernel_rfl) (by kernel_rfl) (fun _ _ _ h => h) (Or.inl ⟨by rfl, ?_⟩) hHeld ?_
            rotate_left 1
            focus (intro w hSw; (try dsimp only at hSw); go_simp; (try with_reducible rfl))
            (repeat (first | simp only [Act.put] | simp only [List.setIfInBounds_toArray] | simp only [List.set_cons_zero] | simp only [List.set_cons_succ]))
            refine takeD (i := 3) (d := some 33) (v := ?_) rfl rfl (by kernel_rfl) (by kernel_rfl) (by kernel_rfl) (fun _ _ _ h => h) (Or.inl ⟨by rfl, ?_⟩) hHeld ?_
            rotate_left 1
            focus (intro w hSw; (try dsimp only at hSw); go_simp; (try with_reducible rfl))
            (repeat (first | simp only [Act.put] | simp only [List.setIfInBounds_toArray] | simp only [List.set_cons_zero] | simp only [List.set_cons_succ]))
            refine takeD (i := 4) (d := some 34) (v := ?_) rfl rfl (by kernel_rfl) (by kernel_rfl) (by kernel_rfl) (fun _ _ _ h => h) (Or.inl ⟨by rfl, ?_⟩) hHeld ?_
            rotate_left 1
            focus (intro w hSw; (try dsimp only at hSw); obtain ⟨e0, e1, e2, e3, e4, e5, e6⟩ := HCW.out w hSw; obtain ⟨g0, g1, g2⟩ := HG.out w hSw; have g3 := HRW.out w hSw; go_simp; (try with_reducible rfl))
            (repeat (first | simp only [Act.put] | simp only [List.setIfInBounds_toArray] | simp only [List.set_cons_zero] | simp only [List.set_cons_succ]))
            refine takeD (i := 5) (d := some 35) (v := ?_) rfl rfl (by kernel_rfl) (by kernel_rfl) (by kernel_rfl) (fun _ _ _ h => h) (Or.inl ⟨by rfl, ?_⟩) hHeld ?_
            rotate_left 1
            focus (intro w hSw; (try dsimp only at hSw); go_simp; (try with_reducible rfl))
            (repeat (first | simp only [Act.put] | simp only [List.setIfInBounds_toArray] | simp only [List.set_cons_zero] | simp only [List.set_cons_succ]))
            refine takeD (i := 6) (d := some 36) (v := ?_) rfl rfl (by kernel_rfl) (by kernel_rfl) (by kernel_rfl) (fun _ _ _ h => h) (Or.inl ⟨by rfl, ?_⟩) hHeld ?_
            rotate_left 1
            focus (intro w hSw; (try dsimp only at hSw); go_simp; (try with_reducible rfl))
            (repeat (first | simp only [Act.put] | simp only [List.setIfInBounds_toArray] | simp only [List.set_cons_zero] | simp only [List.set_cons_succ]))
            refine takeD (i := 7) (d := some 37) (v := ?_) rfl rfl (by kernel_rfl) (by kernel_rfl) (by kernel_rfl) (fun _ _ _ h => h) (Or.inl ⟨by rfl, ?_⟩) hHeld ?_
            rotate_left 1
            focus (intro w hSw; (try dsimp only at hSw); go_simp; (try with_reducible rfl))
            (repeat (first | simp only [Act.put] | simp only [List.setIfInBounds_toArray] | simp only [List.set_cons_zero] | simp only [List.set_cons_succ]))
            refine takeD (i := 8) (d := some 38) (v := ?_) rfl rfl (by kernel_rfl) (by kernel_rfl) (by kernel_rfl) (fun _ _ _ h => h) (Or.inl ⟨by rfl, ?_⟩) hHeld ?_
            rotate_left 1
            focus (intro w hSw; (try dsimp only at hSw); obtain ⟨e0, e1, e2, e3, e4, e5, e6⟩ := HCW.out w hSw; obtain ⟨g0, g1, g2⟩ := HG.out w hSw; have g3 := HRW.out w hSw; go_simp; (try with_reducible rfl))
            (repeat (first | simp only [Act.put] | simp only [List.setIfInBounds_toArray] | simp only [List.set_cons_zero] | simp only [List.set_cons_succ]))
            refine wpAnyH_ready (rs := [9]) (by kernel_rfl) (by simp) ?_
            refine AllReadyH.cons rfl (fun K hK => ?_) AllReadyH.nil
            go_simp
            go_at_call 60
            refine (CE.out _ (by repeat (first | with_reducible exact Below.refl _ _ | with_reducible exact HB9.out | (with_reducible refine Below.drew ?_)))).mono ?_
            rintro e w9 ⟨rfl, hb9⟩
            have HB9 : Hid (Below wr.heap.size wr w9) := Lib.hid ((show Below wr.heap.size wr _ from (by repeat (first | with_reducible exact Below.refl _ _ | with_reducible exact HB9.out | (with_reducible refine Below.drew ?_)))).trans (hb9.mono (show wr.heap.size ≤ _ from (show Below wr.heap.size wr _ from (by repeat (first | with_reducible exact Below.refl _ _ | with_reducible exact HB9.out | (with_reducible refine Below.drew ?_)))).size)))
            clear hb9
            refine hK.out _ _ ((by repeat (first | with_reducible exact Below.refl _ _ | with_reducible exact HB9.out | (with_reducible refine Below.drew ?_)))) (fun hHeld => ?_)
            clear hK K
            (repeat (first | simp only [Act.put] | simp only [List.setIfInBounds_toArray] | simp only [List.set_cons_zero] | simp only [List.set_cons_succ]))
            refine takeD (i := 10) (d := some 40) (v := ?_) rfl rfl (by kernel_rfl) (by kernel_rfl) (by kernel_rfl) (fun _ _ _ h => h) (Or.inl ⟨by rfl, ?_⟩) hHeld ?_
            rotate_left 1
            focus (intro w hSw; (try dsimp only at hSw); go_simp; (try with_reducible rfl))
            (repeat (first | simp only [Act.put] | simp only [List.setIfInBounds_toArray] | simp only [List.set_cons_zero] | simp only [List.set_cons_succ]))
            refine takeD (i := 11) (d := some 41) (v := ?_) rfl rfl (by kernel_rfl) (by kernel_rfl) (by kernel_rfl) (fun _ _ _ h => h) (Or.inl ⟨by rfl, ?_⟩) hHeld ?_
            rotate_left 1
            focus (intro w hSw; (try dsimp only at hSw); go_simp; (try with_reducible rfl))
            (repeat (first | simp only [Act.put] | simp only [List.setIfInBounds_toArray] | simp only [List.set_cons_zero] | simp only [List.set_cons_succ]))
            refine takeD (i := 12) (d := some 42) (v := ?_) rfl rfl (by kernel_rfl) (by kernel_rfl) (by kernel_rfl) (fun _ _ _ h => h) (Or.inl ⟨by rfl, ?_⟩) hHeld ?_
            rotate_left 1
            focus (intro w hSw; (try dsimp only at hSw); obtain ⟨e0, e1, e2, e3, e4, e5, e6⟩ := HCW.out w hSw; obtain ⟨g0, g1, g2⟩ := HG.out w hSw; have g3 := HRW.out w hSw; go_simp; (try with_reducible rfl))
            (repeat (first | simp only [Act.put] | simp only [List.setIfInBounds_toArray] | simp only [List.set_cons_zero] | simp only [List.set_cons_succ]))
            refine takeD (i := 13) (d := some 43) (v := ?_) rfl rfl (by kernel_rfl) (by kernel_rfl) (by kernel_rfl) (fun _ _ _ h => h) (Or.inl ⟨by rfl, ?_⟩) hHeld ?_
            rotate_left 1
            focus (intro w hSw; (try dsimp only at hSw); go_simp; (try with_reducible rfl))
            (repeat (first | simp only [Act.put] | simp only [List.setIfInBounds_toArray] | simp only [List.set_cons_zero] | simp only [List.set_cons_succ]))
            refine takeD (i := 14) (d := some 44) (v := ?_) rfl rfl (by kernel_rfl) (by kernel_rfl) (by kernel_rfl) (fun _ _ _ h => h) (Or.inl ⟨by rfl, ?_⟩) hHeld ?_
            rotate_left 1
            focus (intro w hSw; (try dsimp only at hSw); go_simp; (try with_reducible rfl))
            (repeat (first | simp only [Act.put] | simp only [List.setIfInBounds_toArray] | simp only [List.set_cons_zero] | simp only [List.set_cons_succ]))
            refine takeD (i := 15) (d := some 45) (v := ?_) rfl rfl (by kernel_rfl) (by kernel_rfl) (by kernel_rfl) (fun _ _ _ h => h) (Or.inl ⟨by rfl, ?_⟩) hHeld ?_
            rotate_left 1
            focus (intro w hSw; (try dsimp only at hSw); go_simp; (try with_reducible rfl))
            (repeat (first | simp only [Act.put] | simp only [List.setIfInBounds_toArray] | simp only [List.set_cons_zero] | simp only [List.set_cons_succ]))
            refine takeD (i := 16) (d := some 46) (v := ?_) rfl rfl (by kernel_rfl) (by kernel_rfl) (by kernel_rfl) (fun _ _ _ h => h) (Or.inl ⟨by rfl, ?_⟩) hHeld ?_
            rotate_left 1
            focus (intro w hSw; (try dsimp only at hSw); go_simp; (try with_reducible rfl))
            (repeat (first | simp only [Act.put] | simp only [List.setIfInBounds_toArray] | simp only [List.set_cons_zero] | simp only [List.set_cons_succ]))
            refine takeD (i := 17) (d := some 47) (v := ?_) rfl rfl (by kernel_rfl) (by kernel_rfl) (by kernel_rfl) (fun _ _ _ h => h) (Or.inl ⟨by rfl, ?_⟩) hHeld ?_
            rotate_left 1
            focus (intro w hSw; (try dsimp only at hSw); obtain ⟨e0, e1, e2, e3, e4, e5, e6⟩ := HCW.out w hSw; obtain ⟨g0, g1, g2⟩ := HG.out w hSw; have g3 := HRW.out w hSw; go_simp; (try with_reducible rfl))
            (repeat (first | simp only [Act.put] | simp only [List.setIfInBounds_toArray] | simp only [List.set_cons_zero] | simp only [List.set_cons_succ]))
            refine wpAnyH_ready (rs := [18]) (by kernel_rfl) (by simp) ?_
            refine AllReadyH.cons rfl (fun K hK => ?_) AllReadyH.nil
            go_simp
            go_at_call 32
            refine (CF.out _ (by repeat (first | with_reducible exact Below.refl _ _ | with_reducible exact HB9.out | (with_reducible refine Below.drew ?_)))).mono ?_
            rintro e w10 ⟨rfl, hb9⟩
            have HBn : Hid (Below wr.heap.size wr w10) := Lib.hid ((show Below wr.heap.size wr _ from (by repeat (first | with_reducible exact Below.refl _ _ | with_reducible exact HB9.out | (with_reducible refine Below.drew ?_)))).trans (hb9.mono (show wr.heap.size ≤ _ from (show Below wr.heap.size wr _ from (by repeat (first | with_reducible exact Below.refl _ _ | with_reducible exact HB9.out | (with_reducible refine Below.drew ?_)))).size)))
            clear hb9 HB9
            have HB9 := HBn
            clear HBn
            refine hK.out _ _ ((by repeat (first | with_reducible exact Below.refl _ _ | with_reducible exact HB9.out | (with_reducible refine Below.drew ?_)))) (fun hHeld => ?_)
            clear hK K
            (repeat (first | simp only [Act.put] | simp only [List.setIfInBounds_toArray] | simp only [List.set_cons_zero] | simp only [List.set_cons_succ]))
            refine takeD (i := 19) (d := some 49) (v := ?_) rfl rfl (by kernel_rfl) (by kernel_rfl) (by kernel_rfl) (fun _ _ _ h => h) (Or.inl ⟨by rfl, ?_⟩) hHeld ?_
            rotate_left 1
            focus (intro w hSw; (try dsimp only at hSw); go_simp; (try with_reducible rfl))
            (repeat (first | simp only [Act.put] | simp only [List.setIfInBounds_toArray] | simp only [List.set_cons_zero] | simp only [List.set_cons_succ]))
            refine takeD (i := 20) (d := some 50) (v := ?_) rfl rfl (by kernel_rfl) (by kernel_rfl) (by kernel_rfl) (fun _ _ _ h => h) (Or.inl ⟨by rfl, ?_⟩) hHeld ?_
            rotate_left 1
            focus (intro w hSw; (try dsimp only at hSw); go_simp; (try with_reducible rfl))
            (repeat (first | simp only [Act.put] | simp only [List.setIfInBounds_toArray] | simp only [List.set_cons_zero] | simp only [List.set_cons_succ]))
            refine wpAnyH_done (by kernel_rfl) ?_ _
            go_wp2_with fail
            go_meet
            case rel => exact ⟨by first | rfl | (cases ft <;> rfl), Lib.hid (by repeat (first | with_reducible exact HB9.out | (with_reducible refine Below.drew ?_)))⟩
        case rest =>
          obtain ⟨rfl, HB9⟩ := hcut
          have HBE := Lib.hid (HBF.out.trans (HB9.out.mono HBF.out.size))
          by_cases hef : (eq && ft) = true
          · have HE := Lib.hid (show eq = true ∧ ft = true by simpa using hef)
            rw [hef]
            clear hef
            have HT2 := Lib.hid (cutsOk_succ HT.out (by have := HEQ.out; rw [HE.out.1] at this; exact of_decide_eq_true (by simpa using this.symm)) (by rw [← HFT.out]; exact HE.out.2))
            have HB8 := Lib.hid (HB4.out.trans (HB9.out.mono HB4.out.size))
            go_wp2_with fail
            go_roundw
            case rel => exact ⟨k + 1, by omega, by go_num, HT2, Lib.hid (by repeat (first | with_reducible exact HB8.out | (with_reducible refine Below.drew ?_)))⟩
            case measure => simp [intOf]; omega
          · have HQ := Lib.hid (show z = false by
              rw [HZ.out]
              cases eq with
              | false => exact cutsB_free HRC.out HCL.out (by have := HEQ.out; intro e2; rw [e2] at this; simp at this)
              | true => exact cutsB_fit HCL.out (by rw [← HFT.out]; simpa using hef))
            rw [show (eq && ft) = false by simpa using hef]
            clear hef
            go_wp2_with fail
            go_ret
            exact ⟨ret_bool HQ.out.symm, HBE.out⟩
      · have hkI : ¬ (k : Int) < (nl : Int) := by omega
        obtain rfl : k = nl := by omega
        have HQ := Lib.hid (show z = true by rw [HZ.out]; exact cutsB_all HRC.out (by rw [HLR.out, HNL.out]) (by rw [← HNL.out]; exact HT.out))
        go_wp2_with fail
        go_ret
        exact ⟨ret_bool HQ.out.symm, HBF.out⟩
end Go.Proofs.Ythlnfjbedehjdaa
