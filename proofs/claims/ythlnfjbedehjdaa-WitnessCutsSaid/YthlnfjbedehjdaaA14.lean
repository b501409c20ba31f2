/- The reference's Fits. -/
import Derived.Test.YthlnfjbedehjdaaA13
import Derived.BigQuiet
namespace Go.Proofs.Ythlnfjbedehjdaa
open Go.RowKit Go.Deep Go.Shelf

set_option maxRecDepth 20000 in
set_option maxHeartbeats 4000000 in
theorem rfits_any (w : World) (M M' : Nat → Prop) (v u : Value) (q : RaceD) (certain : Bool) (c : CutD) (h : IsRace w M v q) (h' : IsCut w M' u c) (hv : ValidR q) (hl1 : c.free.length ≤ 140737488355328) (hl2 : c.clubs.length ≤ 140737488355328) :
    Calls Try.prog 32 #[v, .bool certain, u] w fun e w' => e = .returned (.bool (fitsB q certain c)) ∧ Below w.heap.size w w' := by
  obtain ⟨cb, hcb⟩ : ∃ cb : Nat, q.club = (cb : Int) := ⟨q.club.toNat, by have := hv.size.c0; omega⟩
  obtain ⟨cA, cc, pA, pc, oA, oc, rfl, hc, hp, ho⟩ := h.parts
  obtain ⟨fA, fc, uA, uc, gA, gc, rfl, hcf, hcu, hcg⟩ := h'.parts
  rw [hcb] at h ⊢
  have HR := Lib.hid (show IsRace w M (.agg #[.int .i64 q.win, .int .i64 q.draw, .slice cA q.clubs.length cc, .slice pA q.points.length pc, .slice oA q.opn.length oc, .int .i64 (cb : Int), .int .i64 q.place]) q from h)
  have HP := Lib.hid hp
  have HO := Lib.hid ho
  have HF := Lib.hid hcf
  have HU := Lib.hid hcu
  have HG := Lib.hid hcg
  have HV := Lib.hid hv
  have HCB := Lib.hid hcb
  have hd0 := hv.size.d0
  have hd9 : q.draw ≤ 999 := by have := hv.size.dw; have := hv.size.w9; omega
  have hw9 : q.win ≤ 999 := hv.size.w9
  have hp1 := hv.size.p1
  have hp24 : q.place ≤ 24 := by have := hv.size.pn; have := hv.size.n24; omega
  have hop := hv.size.opn
  have hcn : cb < q.points.length := by have := hv.size.cn; have := hv.size.pts; omega
  have CF := fun (W : World) (hB : Below w.heap.size w W) => Lib.hid (rset_any W M M' _ _ q c.free (HR.out.below hB) (IsSl.below HF.out hB) hl1)
  have CU := fun (W : World) (hB : Below w.heap.size w W) => Lib.hid (rset_any W M M' _ _ q c.clubs (HR.out.below hB) (IsSl.below HU.out hB) hl2)
  have CB := fun (W : World) (hB : Below w.heap.size w W) => Lib.hid (bounds_any W M _ q (HR.out.below hB) HV.out)
  have CX := fun (x : Int) (W : World) (hB : Below w.heap.size w W) => Lib.hid ((rmember_any W M' _ c.clubs (IsSl.below HU.out hB) x hl2).mono fun _ _ h => And.intro h.1 h.2.symm)
  have CY := fun (x : Int) (W : World) (hB : Below w.heap.size w W) => Lib.hid ((rmember_any W M' _ c.free (IsSl.below HF.out hB) x hl1).mono fun _ _ h => And.intro h.1 h.2.symm)
  obtain ⟨z, hz⟩ : ∃ z, z = fitsB q certain c := ⟨_, rfl⟩
  have HNO := Lib.hid (show ¬ FitR q certain c → z = false from fun h => hz.trans (fits_no h))
  have HYES := Lib.hid (show FitR q certain c → z = true from fun h => hz.trans (fits_yes h))
  rw [← hz]
  obtain ⟨s1, hs1⟩ : ∃ s1, s1 = setB q c.free := ⟨_, rfl⟩
  obtain ⟨s2, hs2⟩ : ∃ s2, s2 = setB q c.clubs := ⟨_, rfl⟩
  have HS1 := Lib.hid hs1
  have HS2 := Lib.hid hs2
  rw [← hs1] at CF
  rw [← hs2] at CU
  clear hz hs1 hs2 hc hp ho h h' hcf hcu hcg hv hcb
  obtain ⟨nf, hnf⟩ : ∃ nf, nf = c.free.length := ⟨_, rfl⟩
  obtain ⟨nu, hnu⟩ : ∃ nu, nu = c.clubs.length := ⟨_, rfl⟩
  rw [← hnf] at CF CY HF hl1
  rw [← hnu] at CU CX HU hl2
  rw [← hnf, ← hnu]
  have HNF := Lib.hid hnf
  have HNU := Lib.hid hnu
  clear hnf hnu
  go_enter Try.func32, Try.ntmps32
  go_upto_region 1 with fail
  refine nameC fun W1 hW1 => ?_
  have hb1 : Below w.heap.size w W1 := by rw [hW1.out]; exact ((Below.refl _ _).alloc (Nat.le_refl _) _).alloc (by simp) _
  have k0 : W1.heap[w.heap.size]? = some (.cells #[.int .i64 q.win, .int .i64 q.draw, .slice cA q.clubs.length cc, .slice pA q.points.length pc, .slice oA q.opn.length oc, .int .i64 (cb : Int), .int .i64 q.place] 25 (0, 0)) := by rw [hW1.out, heap_alloc_if, if_neg (by simp)]; exact heap_alloc_new _ _
  have k1 : W1.heap[w.heap.size + 1]? = some (.cells #[.slice fA nf fc, .slice uA nu uc, .slice gA c.games.length gc] 31 (0, 0)) := by
    rw [hW1.out, heap_alloc_if, if_pos (by simp)]
  have HB1 := Lib.hid hb1
  clear hW1 hb1
  obtain ⟨B1, hB1⟩ : ∃ B1, B1 = w.heap.size + 1 := ⟨_, rfl⟩
  rw [← hB1] at k1 ⊢
  have hq0 : w.heap.size < W1.heap.size := lt_heap k0
  have hq1 : B1 < W1.heap.size := lt_heap k1
  have HBL := Lib.hid (show ∀ W', Below W1.heap.size W1 W' → Below w.heap.size w W' from fun W' h => HB1.out.trans (h.mono HB1.out.size))
  have HC := Lib.hid (show ∀ W', Below W1.heap.size W1 W' → (W'.cell? ⟨w.heap.size, 0, none⟩ = some (.int .i64 q.win) ∧ W'.cell? ⟨w.heap.size, 1, none⟩ = some (.int .i64 q.draw) ∧ W'.cell? ⟨w.heap.size, 2, none⟩ = some (.slice cA q.clubs.length cc) ∧ W'.cell? ⟨w.heap.size, 3, none⟩ = some (.slice pA q.points.length pc) ∧ W'.cell? ⟨w.heap.size, 4, none⟩ = some (.slice oA q.opn.length oc) ∧ W'.cell? ⟨w.heap.size, 5, none⟩ = some (.int .i64 (cb : Int)) ∧ W'.cell? ⟨w.heap.size, 6, none⟩ = some (.int .i64 q.place) ∧ W'.cell? ⟨B1, 0, none⟩ = some (.slice fA nf fc) ∧ W'.cell? ⟨B1, 1, none⟩ = some (.slice uA nu uc) ∧ W'.cell? ⟨B1, 2, none⟩ = some (.slice gA c.games.length gc)) from fun W' h => by
    have e0 := (h.block _ hq0).trans k0
    have e1 := (h.block _ hq1).trans k1
    exact ⟨cell_of e0 rfl, cell_of e0 rfl, cell_of e0 rfl, cell_of e0 rfl, cell_of e0 rfl, cell_of e0 rfl, cell_of e0 rfl, cell_of e1 rfl, cell_of e1 rfl, cell_of e1 rfl⟩)
  clear k0 k1 hB1
  obtain ⟨e0, e1, e2, e3, e4, e5, e6, e7, e8, e9⟩ := HC.out _ (Below.refl _ _)
  by_cases h1 : q.draw = 0
  · have HQ := Lib.hid (HNO.out fun hf => by have := hf.halves; unfold halvesB at this; simp only [Bool.and_eq_true, decide_eq_true_eq] at this; omega)
    have d1 : (q.draw == 0) = true := by rw [beq_iff_eq]; exact h1
    clear h1
    go_wp2_with fail
    go_ret
    exact ⟨ret_bool HQ.out.symm, HB1.out⟩
  have d1 : (q.draw == 0) = false := by rw [beq_eq_false_iff_ne]; exact h1
  by_cases h2 : q.win = 2 * q.draw
  case neg =>
    have HQ := Lib.hid (HNO.out fun hf => by have := hf.halves; unfold halvesB at this; simp only [Bool.and_eq_true, decide_eq_true_eq] at this; omega)
    have d2 : (q.win == 2 * q.draw) = false := by rw [beq_eq_false_iff_ne]; exact h2
    have d3 : (q.win != 2 * q.draw) = true := by rw [bne_iff_ne]; exact h2
    clear h2 h1
    go_wp2_with fail
    go_ret
    exact ⟨ret_bool HQ.out.symm, HB1.out⟩
  have HHA := Lib.hid (show halvesB q = true by unfold halvesB; rw [decide_eq_true h2, decide_eq_true (by omega)]; rfl)
  have d2 : (q.win == 2 * q.draw) = true := by rw [beq_iff_eq]; exact h2
  have d3 : (q.win != 2 * q.draw) = false := by rw [bne_eq_false_iff_eq]; exact h2
  have hd1 : 1 ≤ q.draw := by omega
  clear h1 h2
  go_wp2_with fail
  refine (CF _ HB1.out).out.mono ?_
  rintro e W2 ⟨rfl, hb⟩
  have HB := Lib.hid hb
  clear hb e0 e1 e2 e3 e4 e5 e6 e7 e8 e9
  obtain ⟨e0, e1, e2, e3, e4, e5, e6, e7, e8, e9⟩ := HC.out _ HB.out
  cases s1
  · have HQ := Lib.hid (HNO.out fun hf => by have := hf.free; rw [← HS1.out] at this; cases this)
    go_wp2_with fail
    go_ret
    exact ⟨ret_bool HQ.out.symm, HBL.out _ HB.out⟩
  go_wp2_with fail
  refine (CU _ (HBL.out _ HB.out)).out.mono ?_
  rintro e W3 ⟨rfl, hb⟩
  replace HB := Lib.hid (HB.out.trans (hb.mono HB.out.size))
  clear hb e0 e1 e2 e3 e4 e5 e6 e7 e8 e9
  obtain ⟨e0, e1, e2, e3, e4, e5, e6, e7, e8, e9⟩ := HC.out _ HB.out
  cases s2
  · have HQ := Lib.hid (HNO.out fun hf => by have := hf.clubs; rw [← HS2.out] at this; cases this)
    go_wp2_with fail
    go_ret
    exact ⟨ret_bool HQ.out.symm, HBL.out _ HB.out⟩
  by_cases h0 : nu = 0
  · have HQ := Lib.hid (HNO.out fun hf => hf.some (List.eq_nil_of_length_eq_zero (by rw [← HNU.out]; exact h0)))
    have d4 : ((nu : Int) == 0) = true := by rw [beq_iff_eq]; omega
    have d5 : (nu == 0) = true := by rw [beq_iff_eq]; omega
    clear h0
    go_wp2_with fail
    go_ret
    exact ⟨ret_bool HQ.out.symm, HBL.out _ HB.out⟩
  have HNE := Lib.hid (show c.clubs ≠ [] from fun e => h0 (by rw [HNU.out, e]; rfl))
  have d4 : ((nu : Int) == 0) = false := by rw [beq_eq_false_iff_ne]; omega
  have d5 : (nu == 0) = false := by rw [beq_eq_false_iff_ne]; omega
  clear h0
  obtain ⟨sk, hsk⟩ : ∃ sk, sk = sizeK q certain := ⟨_, rfl⟩
  have HSK := Lib.hid hsk
  have HSKF := Lib.hid (show sk = if certain then q.place else q.place - 1 from hsk)
  clear hsk
  go_upto_if 51 with fail
  go_cut [7] (fun s7 W => s7 = .int .i64 sk ∧ Hid (Below W1.heap.size W1 W))
  case first =>
    cases certain
    · have HQ := Lib.hid (show sk = q.place - 1 from HSKF.out)
      go_wp2_with fail
      go_meet
      case rel => exact ⟨by rw [HQ.out], HB⟩
    · have HQ := Lib.hid (show sk = q.place from HSKF.out)
      go_wp2_with fail
      go_meet
      case rel => exact ⟨by rw [HQ.out], HB⟩
  case rest =>
    clear HB e0 e1 e2 e3 e4 e5 e6 e7 e8 e9
    obtain ⟨rfl, HB⟩ := hcut
    obtain ⟨e0, e1, e2, e3, e4, e5, e6, e7, e8, e9⟩ := HC.out _ HB.out
    by_cases hk0 : (nf : Int) = sk
    case neg =>
      have HQ := Lib.hid (HNO.out fun hf => hk0 (by rw [HNF.out, HSK.out]; exact hf.size))
      have hk1 : ((nf : Int) != sk) = true := by rw [bne_iff_ne]; exact hk0
      clear hk0
      go_wp2_with fail
      go_ret
      exact ⟨ret_bool HQ.out.symm, HBL.out _ HB.out⟩
    have hk1 : ((nf : Int) != sk) = false := by rw [bne_eq_false_iff_eq]; exact hk0
    have HSZ := Lib.hid (show (c.free.length : Int) = sizeK q certain by rw [← HNF.out, ← HSK.out]; exact hk0)
    clear hk0
    go_wp2_with fail
    refine (CB _ (HBL.out _ HB.out)).out.mono ?_
    rintro e W4 ⟨rfl, hb⟩
    replace HB := Lib.hid (HB.out.trans (hb.mono HB.out.size))
    clear hb d1 d2 d3 d4 d5 hk1 e0 e1 e2 e3 e4 e5 e6 e7 e8 e9
    have hhi := highTo_in HV.out q.opn.length
    rw [show highTo q q.opn.length = highR q from rfl] at hhi
    have hlo := low_in HV.out q.club.toNat
    rw [show nthI q.points q.club.toNat = lowR q from rfl] at hlo
    obtain ⟨hi, hhiE⟩ : ∃ hi, hi = highR q := ⟨_, rfl⟩
    obtain ⟨lo, hloE⟩ : ∃ lo, lo = lowR q := ⟨_, rfl⟩
    rw [← hhiE] at hhi ⊢
    rw [← hloE] at hlo ⊢
    obtain ⟨hhi1, hhi2⟩ := hhi
    obtain ⟨hlo1, hlo2⟩ := hlo
    have HHI := Lib.hid hhiE
    have HLO := Lib.hid hloE
    have HST := Lib.hid HS2.out.symm
    have hnu24 : nu ≤ 24 := by have := set_len HST.out; have := HV.out.size.n24; rw [HNU.out]; omega
    clear hhiE hloE CF CU CB
    rename World => w9
    go_wp2_with fail
    go_loopw [10, 11] (fun s10 s11 wr => ∃ j : Nat, j ≤ nu ∧ s10 = .int .i64 (if certain then sumTo q certain c.clubs j else -sumTo q certain c.clubs j) ∧ s11 = .int .i64 (j : Int) ∧ Hid (sideTo c.free certain c.clubs j) ∧ Hid (Below w9.heap.size w9 wr)) (fun _ s11 _ => nu - (intOf s11).toNat)
    case atStart => exact ⟨0, Nat.zero_le _, by cases certain <;> rfl, rfl, Lib.hid sideTo_zero, Lib.hid (Below.refl _ _)⟩
    case round =>
      obtain ⟨j, hj, rfl, rfl, HS, HB2⟩ := hrel
      have hsum := sumTo_in HV.out (show 0 < q.draw by omega) certain c.clubs j
      obtain ⟨sm, hsm⟩ : ∃ sm, sm = if certain then sumTo q certain c.clubs j else -sumTo q certain c.clubs j := ⟨_, rfl⟩
      have HSM := Lib.hid hsm
      have hsm12 : -24000000 ≤ sm ∧ sm ≤ 24000000 := by rw [hsm]; split <;> omega
      rw [← hsm]
      clear hsm
      obtain ⟨hsm1, hsm2⟩ := hsm12
      clear hsum
      have HBW := Lib.hid (HB.out.trans (HB2.out.mono HB.out.size))
      obtain ⟨e0, e1, e2, e3, e4, e5, e6, e7, e8, e9⟩ := HC.out _ HBW.out
      by_cases hlt : j < nu
      · obtain ⟨ub, uo, rfl, hub, hux⟩ := HU.out.at_ (HBL.out _ HBW.out) (show j < c.clubs.length by rw [← HNU.out]; exact hlt)
        have hok := set_ok HST.out (show j < c.clubs.length by rw [← HNU.out]; exact hlt)
        obtain ⟨xi, hxi⟩ : ∃ xi : Nat, nthI c.clubs j = (xi : Int) := ⟨(nthI c.clubs j).toNat, by have := hok.1; omega⟩
        have hxn : xi < q.points.length := by have := hok.2.1; have := HV.out.size.pts; omega
        obtain ⟨pb, po, rfl, hpb, hpx⟩ := HP.out.at_ (HBL.out _ HBW.out) hxn
        rw [hxi] at hux
        have HXI := Lib.hid hxi
        have hpi := low_in HV.out xi
        have hroom : countR q certain (xi : Int) = if certain then max 0 (-((nthI q.points xi - lo) / q.draw)) else -((hi - nthI q.points xi) / q.draw) := by
          rw [HLO.out, HHI.out]; rfl
        obtain ⟨pv, hpv⟩ : ∃ pv, pv = nthI q.points xi := ⟨_, rfl⟩
        rw [← hpv] at hpx hpi hroom
        obtain ⟨hpi1, hpi2⟩ := hpi
        have CYx := Lib.hid (show ∀ W, Below W1.heap.size W1 W → _ from fun W hB => (CY (xi : Int) W (HBL.out _ hB)).out)
        obtain ⟨f, hf⟩ : ∃ f, f = c.free.contains (xi : Int) := ⟨_, rfl⟩
        rw [← hf] at CYx
        have HFX := Lib.hid hf
        have HROOM := Lib.hid hroom
        have CL1 := Lib.hid (show ∀ W : World, Calls Try.prog 59 #[.int .i64 (pv - lo), .int .i64 q.draw] W (fun e w' => e = .returned (.int .i64 ((pv - lo) / q.draw)) ∧ w' = W) from fun W => (rfloor_any W (pv - lo) q.draw ⟨hd1, hd9⟩ ⟨by omega, by omega⟩).mono fun _ _ h => ⟨h.1, h.2.symm⟩)
        have CL2 := Lib.hid (show ∀ W : World, Calls Try.prog 59 #[.int .i64 (hi - pv), .int .i64 q.draw] W (fun e w' => e = .returned (.int .i64 ((hi - pv) / q.draw)) ∧ w' = W) from fun W => (rfloor_any W (hi - pv) q.draw ⟨hd1, hd9⟩ ⟨by omega, by omega⟩).mono fun _ _ h => ⟨h.1, h.2.symm⟩)
        have hd3 := div_in (a := pv - lo) (b := q.draw) (by omega) (m := 200000) (by omega) (by omega)
        have hd4 := div_in (a := hi - pv) (b := q.draw) (by omega) (m := 900000) (by omega) (by omega)
        obtain ⟨f1, hf1⟩ : ∃ f1, f1 = (pv - lo) / q.draw := ⟨_, rfl⟩
        obtain ⟨f2, hf2⟩ : ∃ f2, f2 = (hi - pv) / q.draw := ⟨_, rfl⟩
        rw [← hf1] at CL1 hd3 HROOM
        rw [← hf2] at CL2 hd4 HROOM
        obtain ⟨hd31, hd32⟩ := hd3
        obtain ⟨hd41, hd42⟩ := hd4
        have hj0 : (0 : Int) ≤ (j : Int) := by omega
        have hj1 : (j : Int) < (nu : Int) := by omega
        have hx0 : (0 : Int) ≤ (xi : Int) := by omega
        have hx1 : (xi : Int) < (q.points.length : Int) := by omega
        clear hf1 hf2 hf hpv hroom hxi hok
        by_cases hfc : f = certain
        · have hfc2 : (f == certain) = true := by rw [beq_iff_eq]; exact hfc
          have HSS := Lib.hid (sideTo_succ HS.out (by rw [HXI.out, ← HFX.out]; exact hfc))
          have HSM2 := Lib.hid (show sumTo q certain c.clubs (j + 1) = sumTo q certain c.clubs j + countR q certain (xi : Int) by show sumTo q certain c.clubs j + countR q certain (nthI c.clubs j) = _; rw [HXI.out])
          clear HFX
          subst hfc
          cases f
          · go_wp2_with fail
            go_quiet ((go_at_call 58; exact Calls.quiet_of_same (CYx.out _ (bDrewN HBW.out _))))
            go_wp2_with fail
            go_quiet (fail)
            go_wp2_with fail
            refine (CL2.out _).mono ?_
            rintro e w2 ⟨rfl, rfl⟩
            go_wp2_with fail
            go_roundw
            case rel => exact ⟨j + 1, by omega, by rw [HSM2.out]; congr 1; have h3 := HSM2.out; have h4 := HROOM.out; have h5 := HSM.out; simp only [if_false, Bool.false_eq_true] at h4 h5 ⊢; (repeat split) <;> omega, by go_num, HSS, Lib.hid (by repeat (first | with_reducible exact HB2.out | (with_reducible refine bDrewN ?_ _)))⟩
            case measure => simp [intOf]; omega
          · go_wp2_with fail
            go_quiet ((go_at_call 58; exact Calls.quiet_of_same (CYx.out _ (bDrewN HBW.out _))))
            go_wp2_with fail
            go_quiet (fail)
            go_wp2_with fail
            refine (CL1.out _).mono ?_
            rintro e w2 ⟨rfl, rfl⟩
            go_wp2_with fail
            go_roundw
            case rel => exact ⟨j + 1, by omega, by rw [HSM2.out]; congr 1; have h3 := HSM2.out; have h4 := HROOM.out; have h5 := HSM.out; simp only [if_true] at h4 h5 ⊢; (repeat split) <;> omega, by go_num, HSS, Lib.hid (by repeat (first | with_reducible exact HB2.out | (with_reducible refine bDrewN ?_ _)))⟩
            case measure => simp [intOf]; omega
        · have hfc2 : (f == certain) = false := by rw [beq_eq_false_iff_ne]; exact hfc
          have HQ := Lib.hid (HNO.out fun h => hfc (by rw [HFX.out, ← HXI.out]; exact h.side j (by rw [← HNU.out]; exact hlt)))
          cases f <;> cases certain
          · exact absurd rfl hfc
          · clear hfc hfc2
            go_wp2_with fail
            go_quiet ((go_at_call 58; exact Calls.quiet_of_same (CYx.out _ (bDrewN HBW.out _))))
            go_wp2_with fail
            go_ret
            exact ⟨ret_bool HQ.out.symm, HBL.out _ (bDrewN HBW.out _)⟩
          · clear hfc hfc2
            go_wp2_with fail
            go_quiet ((go_at_call 58; exact Calls.quiet_of_same (CYx.out _ (bDrewN HBW.out _))))
            go_wp2_with fail
            go_ret
            exact ⟨ret_bool HQ.out.symm, HBL.out _ (bDrewN HBW.out _)⟩
          · exact absurd rfl hfc
      · have hnl : ¬ (j : Int) < (nu : Int) := by omega
        obtain rfl : j = nu := by omega
        have HSM2 := Lib.hid (show sm = if certain then sumTo q certain c.clubs c.clubs.length else -sumTo q certain c.clubs c.clubs.length by rw [HSM.out, HNU.out])
        have HSD := Lib.hid (show sideTo c.free certain c.clubs c.clubs.length by rw [← HNU.out]; exact HS.out)
        clear CY HSM HS e0 e1 e2 e3 e4 e5 e6 e7 e8 e9 HB HB2
        obtain ⟨no, hno⟩ : ∃ no, no = q.opn.length := ⟨_, rfl⟩
        rw [← hno] at hop
        have HNO2 := Lib.hid hno
        rw [← hno] at HC
        rw [← hno]
        clear hno
        obtain ⟨e0, e1, e2, e3, e4, e5, e6, e7, e8, e9⟩ := HC.out _ HBW.out
        rename World => w8
        go_wp2_with fail
        clear e0 e1 e2 e3 e4 e5 e6 e7 e8 e9
        go_loopw [13, 14] (fun s13 s14 wr => ∃ k : Nat, k ≤ no ∧ s14 = .int .i64 (k : Int) ∧ Hid (wr.ownsRow W1.heap.size 3 1 s13 (gamesTo q certain c.clubs k).length ((gamesTo q certain c.clubs k).map i64v)) ∧ Hid (Below W1.heap.size W1 wr)) (fun _ s14 _ => no - (intOf s14).toNat)
        case atStart => exact ⟨0, Nat.zero_le _, rfl, Lib.hid (own_empty (heap_alloc_new _ _) HBW.out.size), Lib.hid (HBW.out.alloc HBW.out.size _)⟩
        case round =>
          clear HBW
          obtain ⟨k, hk, rfl, HO9, HB9⟩ := hrel
          obtain ⟨e0, e1, e2, e3, e4, e5, e6, e7, e8, e9⟩ := HC.out _ HB9.out
          by_cases hlt : k < no
          · obtain ⟨eb, eo, rfl, heb, hx0, hy0⟩ := HO.out.at_ (HBL.out _ HB9.out) (show k < q.opn.length by rw [← HNO2.out]; exact hlt)
            have hne : nthE q.opn k = q.opn[k]'(by rw [← HNO2.out]; exact hlt) := by unfold nthE; rw [List.getD_eq_getElem?_getD, List.getElem?_eq_getElem, Option.getD_some]
            obtain ⟨⟨x, y⟩, hxy⟩ : ∃ e, e = q.opn[k]'(by rw [← HNO2.out]; exact hlt) := ⟨_, rfl⟩
            rw [← hxy] at hx0 hy0 hne
            dsimp only at hx0 hy0
            have CL := Lib.hid (show ∀ W, Below W1.heap.size W1 W → _ from fun W hB => (CX x W (HBL.out _ hB)).out)
            have CR := Lib.hid (show ∀ W, Below W1.heap.size W1 W → _ from fun W hB => (CX y W (HBL.out _ hB)).out)
            have hhit : hitB q certain c.clubs k = ((c.clubs.contains x && c.clubs.contains y) || (certain && (c.clubs.contains x || c.clubs.contains y))) := by unfold hitB; rw [hne]
            obtain ⟨l, hll⟩ : ∃ l, l = c.clubs.contains x := ⟨_, rfl⟩
            obtain ⟨r, hrr⟩ : ∃ r, r = c.clubs.contains y := ⟨_, rfl⟩
            rw [← hll] at CL hhit
            rw [← hrr] at CR hhit
            have hglen := gamesTo_le q certain c.clubs k
            obtain ⟨gl, hgl⟩ : ∃ gl, gl = gamesTo q certain c.clubs k := ⟨_, rfl⟩
            rw [← hgl] at HO9 hglen
            have HGL := Lib.hid hgl
            have HHIT := Lib.hid hhit
            have hk0 : (0 : Int) ≤ (k : Int) := by omega
            have hk1 : (k : Int) < (no : Int) := by omega
            have HXY := Lib.hid hxy
            clear hgl hhit hll hrr hne hxy
            go_wp2_with fail
            go_quiet ((go_at_call 58; exact Calls.quiet_of_same (CL.out _ (bDrewN HB9.out _))))
            go_upto_region 24 with fail
            refine nameC fun W5 hW5 => ?_
            have hb5 : Below wr.heap.size wr W5 := by rw [hW5.out]; exact bDrewN (Below.refl _ _) _
            have HO5 := Lib.hid (own_belowA HO9.out hb5)
            have HB5 := Lib.hid (HB9.out.trans (hb5.mono HB9.out.size))
            clear e0 e1 e2 e3 e4 e5 e6 e7 e8 e9 hx0 hy0
            obtain ⟨e0, e1, e2, e3, e4, e5, e6, e7, e8, e9⟩ := HC.out _ HB5.out
            obtain ⟨eb2, eo2, e, -, hx0, hy0⟩ := HO.out.at_ (HBL.out _ HB5.out) (show k < q.opn.length by rw [← HNO2.out]; exact hlt)
            injection e with e
            injection e with e e'
            subst e e'
            rw [← HXY.out] at hx0 hy0
            dsimp only at hx0 hy0
            clear hW5 hb5 HO9 HB9
            go_quiet ((go_at_call 58; exact Calls.quiet_of_same (CR.out _ (bDrewN HB5.out _))))
            go_upto_region 25 with fail
            refine nameC fun W6 hW6 => ?_
            have hb6 : Below W5.heap.size W5 W6 := by rw [hW6.out]; exact bDrewN (Below.refl _ _) _
            have HO6 := Lib.hid (own_belowA HO5.out hb6)
            have HB6 := Lib.hid (HB5.out.trans (hb6.mono HB5.out.size))
            clear e0 e1 e2 e3 e4 e5 e6 e7 e8 e9 hx0 hy0 CL CR HO5 HB5 hb6 hW6
            obtain ⟨ht, hht⟩ : ∃ ht, ht = hitB q certain c.clubs k := ⟨_, rfl⟩
            have HHT := Lib.hid hht
            rw [← hht] at HHIT
            clear hht
            go_cut [147] (fun v W => v = .bool ht ∧ W6 = W)
            case first =>
              cases l
              · skip
                cases r
                · skip
                  cases certain
                  · have HQ := Lib.hid (show ht = false from HHIT.out)
                    go_wp2_with fail
                    go_meet
                    case rel => exact ⟨by rw [HQ.out], rfl⟩
                  · have HQ := Lib.hid (show ht = false from HHIT.out)
                    go_wp2_with fail
                    go_meet
                    case rel => exact ⟨by rw [HQ.out], rfl⟩
                · skip
                  cases certain
                  · have HQ := Lib.hid (show ht = false from HHIT.out)
                    go_wp2_with fail
                    go_meet
                    case rel => exact ⟨by rw [HQ.out], rfl⟩
                  · have HQ := Lib.hid (show ht = true from HHIT.out)
                    go_wp2_with fail
                    go_meet
                    case rel => exact ⟨by rw [HQ.out], rfl⟩
              · skip
                cases r
                · skip
                  cases certain
                  · have HQ := Lib.hid (show ht = false from HHIT.out)
                    go_wp2_with fail
                    go_meet
                    case rel => exact ⟨by rw [HQ.out], rfl⟩
                  · have HQ := Lib.hid (show ht = true from HHIT.out)
                    go_wp2_with fail
                    go_meet
                    case rel => exact ⟨by rw [HQ.out], rfl⟩
                · skip
                  cases certain
                  · have HQ := Lib.hid (show ht = true from HHIT.out)
                    go_wp2_with fail
                    go_meet
                    case rel => exact ⟨by rw [HQ.out], rfl⟩
                  · have HQ := Lib.hid (show ht = true from HHIT.out)
                    go_wp2_with fail
                    go_meet
                    case rel => exact ⟨by rw [HQ.out], rfl⟩
            case rest =>
              obtain ⟨rfl, rfl⟩ := hcut
              clear HHIT
              cases ht
              · have HGN2 := Lib.hid (show gamesTo q certain c.clubs (k + 1) = gl by rw [gamesTo_no HHT.out.symm, ← HGL.out])
                go_wp2_with fail
                go_roundw
                case rel => exact ⟨k + 1, by omega, by go_num, Lib.hid (by rw [HGN2.out]; exact HO6.out), HB6⟩
                case measure => simp [intOf]; omega
              · have HGN2 := Lib.hid (show gamesTo q certain c.clubs (k + 1) = gl ++ [(k : Int)] by rw [gamesTo_yes HHT.out.symm, ← HGL.out])
                go_wp2_with (at_builtin; refine wpList_int1 rfl (.tmp 148) (.tmp 150) rfl W1.heap.size gl (k : Int) rfl (HO6.out.alloc _) rfl (heap_alloc_new _ _) (by omega) (by have := HB6.out.size; simp; omega) ?_; intro A7 d7 w7 H7; have HB7 := Lib.hid ((HB6.out.alloc HB6.out.size _).trans H7.out.2.1); have HO7 := Lib.hid H7.out.1; clear H7 HB6 HO6; (repeat (first | simp only [Act.put] | simp only [List.setIfInBounds_toArray] | simp only [List.set_cons_zero] | simp only [List.set_cons_succ])))
                go_roundw
                case rel => exact ⟨k + 1, by omega, by go_num, Lib.hid (by rw [HGN2.out]; exact HO7.out), HB7⟩
                case measure => simp [intOf]; omega
          · have hnl : ¬ (k : Int) < (no : Int) := by omega
            obtain rfl : k = no := by omega
            have hglen := gamesTo_le q certain c.clubs k
            obtain ⟨gl, hgl⟩ : ∃ gl, gl = gamesTo q certain c.clubs k := ⟨_, rfl⟩
            rw [← hgl] at HO9 hglen
            have HGL := Lib.hid (show gl = gamesTo q certain c.clubs q.opn.length by rw [hgl, HNO2.out])
            obtain ⟨A9, d9, rfl⟩ := own_sl HO9.out
            have HGM := Lib.hid (IsInts.ofOwn HO9.out)
            have CE := Lib.hid (rsame_any wr _ M' _ _ gl c.games HGM.out (IsSl.below HG.out (HBL.out _ HB9.out)) (by omega))
            obtain ⟨gn, hgn⟩ : ∃ gn, gn = gl.length := ⟨_, rfl⟩
            rw [← hgn] at CE hglen ⊢
            have HGLL := Lib.hid (show (gn : Int) = ((gamesTo q certain c.clubs q.opn.length).length : Int) by rw [hgn, HGL.out])
            clear hgn hgl HO9 HGM CX HO
            go_wp2_with fail
            refine CE.out.mono ?_
            rintro e w2 ⟨rfl, hb⟩
            have HBe := Lib.hid (HBL.out _ (HB9.out.trans (hb.mono HB9.out.size)))
            clear hb CE
            by_cases hge : gl = c.games
            · have hge2 : (gl == c.games) = true := by rw [beq_iff_eq]; exact hge
              have HGE := Lib.hid (show gamesTo q certain c.clubs q.opn.length = c.games by rw [← HGL.out]; exact hge)
              rw [hge2]
              clear hge hge2
              cases certain
              · skip
                have HOV := Lib.hid (show overB q false c.clubs = decide (sm < 2 * (gn : Int)) by
                  unfold overB
                  have h5 := HSM2.out
                  simp only [if_false, Bool.false_eq_true] at h5 ⊢
                  rw [← HGLL.out, decide_eq_decide]
                  omega)
                by_cases ht : sm < 2 * (gn : Int)
                · have dt : decide (sm < 2 * (gn : Int)) = true := by rw [decide_eq_true_eq]; exact ht
                  have HQ := Lib.hid (show z = true from HYES.out ⟨HHA.out, HS1.out.symm, HST.out, HNE.out, HSZ.out, HSD.out, HGE.out, by rw [HOV.out]; exact decide_eq_true ht⟩)
                  clear ht
                  go_wp2_with fail
                  go_ret
                  exact ⟨ret_bool HQ.out.symm, HBe.out⟩
                · have dt : decide (sm < 2 * (gn : Int)) = false := by rw [decide_eq_false_iff_not]; exact ht
                  have HQ := Lib.hid (show z = false from HNO.out fun hf => ht (by have := hf.over; rw [HOV.out, decide_eq_true_eq] at this; exact this))
                  clear ht
                  go_wp2_with fail
                  go_ret
                  exact ⟨ret_bool HQ.out.symm, HBe.out⟩
              · skip
                have HOV := Lib.hid (show overB q true c.clubs = decide (2 * (gn : Int) < sm) by
                  unfold overB
                  have h5 := HSM2.out
                  simp only [if_true] at h5 ⊢
                  rw [← HGLL.out, decide_eq_decide]
                  omega)
                by_cases ht : 2 * (gn : Int) < sm
                · have dt : decide (2 * (gn : Int) < sm) = true := by rw [decide_eq_true_eq]; exact ht
                  have HQ := Lib.hid (show z = true from HYES.out ⟨HHA.out, HS1.out.symm, HST.out, HNE.out, HSZ.out, HSD.out, HGE.out, by rw [HOV.out]; exact decide_eq_true ht⟩)
                  clear ht
                  go_wp2_with fail
                  go_ret
                  exact ⟨ret_bool HQ.out.symm, HBe.out⟩
                · have dt : decide (2 * (gn : Int) < sm) = false := by rw [decide_eq_false_iff_not]; exact ht
                  have HQ := Lib.hid (show z = false from HNO.out fun hf => ht (by have := hf.over; rw [HOV.out, decide_eq_true_eq] at this; exact this))
                  clear ht
                  go_wp2_with fail
                  go_ret
                  exact ⟨ret_bool HQ.out.symm, HBe.out⟩
            · have hge2 : (gl == c.games) = false := by rw [beq_eq_false_iff_ne]; exact hge
              have HQ := Lib.hid (show z = false from HNO.out fun hf => hge (by rw [HGL.out]; exact hf.games))
              rw [hge2]
              clear hge hge2
              go_wp2_with fail
              go_ret
              exact ⟨ret_bool HQ.out.symm, HBe.out⟩
end Go.Proofs.Ythlnfjbedehjdaa
