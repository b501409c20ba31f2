/- advance, the closure of Max. -/
import Derived.Test.YtikddknhcfhnbaaC2
import Derived.Deep.QuietTactic
import Derived.BigQuiet
namespace Go.Proofs.Ytikddknhcfhnbaa
open Go.RowKit Go.Deep
def AdvW (B : Nat) (w : World) (n : NetD) (V : Nat) (lv : Nat → Int) (bu lb : Nat) (v : Nat) (amt : Int) (us : Nat → Nat) (fo bk : Nat → Int) (e : Ending) (w' : World) : Prop :=
  ∃ got us' fo' bk', e = .returned (.int .i64 got) ∧ KB B [bu, lb] w w' ∧ DAW w' bu lb n.arcs.length V us' fo' bk' ∧ AdvP n V lv v amt got fo bk us fo' bk' us'
/-- what advance asks -/
structure AdvA (B : Nat) (w : World) (n : NetD) (V : Nat) (lv : Nat → Int) (X : Nat → Value) (bs bx bh bn bv bf bu g lb bl base : Nat) (us : Nat → Nat) (fo bk : Nat → Int) (v : Nat) : Prop where
  f : FAW B w n V lv X bs bx bh bn bv bf bu g lb bl base
  d : DAW w bu lb n.arcs.length V us fo bk
  i : AdvI n V lv fo bk us
  lt : v < V
  l0 : 0 ≤ lv v
theorem KB.drewN {B : Nat} {l : List Nat} {w w' : World} (h : KB B l w w') (k : Nat) : KB B l w (w'.drewN k) := ⟨h.kp.drewN k, below_drewN h.bel k⟩
theorem rm_nonneg {n : NetD} {fo bk : Nat → Int} (h : Res n fo bk) {z : Int} (hz : ixA z < n.arcs.length) : 0 ≤ rmA fo bk z := by
  rcases code_cases z with ⟨i, rfl, hi⟩ | ⟨i, rfl, hi⟩
  · rw [hi] at hz; rw [rmA_fo]; exact h.fo0 i hz
  · rw [hi] at hz; rw [rmA_bk]; exact h.bk0 i hz
set_option maxRecDepth 20000 in
set_option maxHeartbeats 4000000 in
theorem adv_any (B : Nat) (n : NetD) (V : Nat) (lv : Nat → Int) (X : Nat → Value) (bs bx bh bn bv bf bu g lb bl base : Nat) (hn : NOk n V) (hlv : ∀ u, u < V → -1 ≤ lv u ∧ lv u < (V : Int)) : ∀ (d : Nat) (w : World) (us : Nat → Nat) (fo bk : Nat → Int) (v : Nat) (amt : Int),
    AdvA B w n V lv X bs bx bh bn bv bf bu g lb bl base us fo bk v → (V : Int) - lv v ≤ (d : Int) → 0 < amt → amt ≤ 1073741824 →
    Calls Try.prog 28 #[.int .i64 (v : Int), .int .i64 amt, .pointer (some ⟨bs, 0, none⟩), .pointer (some ⟨bx, 0, none⟩), .pointer (some ⟨bh, 0, none⟩), .pointer (some ⟨bn, 0, none⟩), .pointer (some ⟨bv, 0, none⟩), .pointer (some ⟨bf, 0, none⟩)] w (AdvW B w n V lv bu lb v amt us fo bk) := by
  intro d
  induction d with
  | zero =>
    intro w us fo bk v amt ha hd
    have := (hlv v ha.lt).2
    exact absurd hd (by omega)
  | succ d ih =>
    intro w us fo bk v amt ha hd hamt hamt2
    have HIH := Lib.hid ih
    have HA := Lib.hid ha
    have HN := Lib.hid hn
    have HLV := Lib.hid hlv
    have HD := Lib.hid hd
    have cs : w.cell? ⟨bs, 0, none⟩ = some (.int .i64 ((V : Int) - 1)) := cell_of ha.f.sk rfl
    have hV := hn.lo
    have hV5 := hn.hi
    have hvV := ha.lt
    clear ih ha hn hlv hd
    by_cases hvs : (v : Int) = (V : Int) - 1
    · go_enter Try.func28, Try.ntmps28
      go_wp2_with fail
      go_ret
      exact ⟨amt, us, fo, bk, rfl, KB.refl _ _ _, HA.out.d, AdvP.sink HA.out.i (by omega) hamt⟩
    · go_enter Try.func28, Try.ntmps28
      go_wp2_with fail
      rw [show ((v : Int) == (V : Int) - 1) = false by simpa using hvs]
      clear cs
      go_loopg [] ((adjN n v).length - us v) (fun gk wr => ∃ us', gk = (adjN n v).length - us' v ∧ Hid (KB B [bu, lb] w wr) ∧ Hid (DAW wr bu lb n.arcs.length V us' fo bk) ∧ Hid (AdvL n V lv v fo bk us us'))
      case atStart => exact ⟨us, rfl, Lib.hid (KB.refl _ _ _), Lib.hid HA.out.d, Lib.hid (AdvL.start HA.out.i)⟩
      case round =>
        obtain ⟨us', hgk, HK, HDW, HL⟩ := hrel
        have HF := Lib.hid (HA.out.f.kp HK.out)
        have x0 : wr.cell? ⟨bx, 0, none⟩ = some (.slice (some ⟨bu, 0, none⟩) V V) := cell_of HF.out.ux rfl
        have h0 : wr.cell? ⟨bh, 0, none⟩ = some (.pointer (some ⟨g, 0, none⟩)) := cell_of HF.out.gh rfl
        have hcu := HDW.out.us.cell hvV
        have hfu := HDW.out.us.frozen v
        have hca := HF.out.adj.cell (v := v) (by omega)
        have hown := HF.out.adj.own v (by omega)
        obtain ⟨l, hl⟩ : ∃ l, l = adjN n v := ⟨_, rfl⟩
        rw [show adjT n.arcs n.arcs.length v = l from hl.symm] at hown
        obtain ⟨Av, dv, hxv⟩ := own_sl hown
        rw [hxv] at hown hca
        have HI := Lib.hid (IsInts.ofOwn hown)
        have hll : l.length ≤ 8192 := by rw [hl]; have h1 := adjT_len n.arcs n.arcs.length v; have h2 := HN.out.len; unfold adjN; omega
        have HLL := Lib.hid hl
        rw [← hl] at hgk
        obtain ⟨j, hj⟩ : ∃ j, j = us' v := ⟨_, rfl⟩
        rw [← hj] at hcu hgk
        have HJ := Lib.hid hj
        have hjl : j ≤ l.length := by rw [hj, hl]; exact HL.out.i.ule v hvV
        have hv0 : (0 : Int) ≤ (v : Int) := by omega
        have hvI : (v : Int) < (V : Int) := by omega
        have hv512 : (v : Int) < 512 := by omega
        have hj0 : (0 : Int) ≤ (j : Int) := by omega
        clear hown hxv hl hj
        by_cases hjlt : j < l.length
        · have hjI : (j : Int) < (l.length : Int) := by omega
          obtain ⟨ba, oa, rfl, hba, hcz⟩ := HI.out.at_ (Below.refl _ _) hjlt
          obtain ⟨z, hz⟩ : ∃ z, z = nthI l j := ⟨_, rfl⟩
          rw [← hz] at hcz
          have HZ := Lib.hid hz
          clear hz
          go_wp2_with fail
          go_quiet (fail)
          go_wp2_with fail
          go_quiet (fail)
          obtain ⟨va, hnb, hva⟩ := HF.out.nb
          have n0 : wr.cell? ⟨bn, 0, none⟩ = some (.int .i64 n.vs) := cell_of hnb rfl
          have n1 : wr.cell? ⟨bn, 1, none⟩ = some va := cell_of hnb rfl
          have hm : z ∈ l := by rw [HZ.out, nthI_get hjlt]; exact List.getElem_mem hjlt
          rw [HLL.out] at hm
          have hzm := (adj_mem HN.out (u := v) (z := z) (Nat.le_refl _)).1 hm
          have HZM := Lib.hid hzm
          obtain ⟨t, htV, hht, -⟩ := hdA_rng HN.out hzm.1
          have HHT := Lib.hid hht
          have HVA : Hid (IsNet wr (NB [bu, lb]) (.agg #[.int .i64 n.vs, va]) n) := Lib.hid ⟨va, rfl, hva⟩
          clear hnb hva hzm hht hm
          go_wp2_with fail
          refine nameW fun w5 hw5 => ?_
          have hb5 : Below wr.heap.size wr w5 := by rw [hw5.out]; exact below_drewN (Below.refl _ _) _
          have HB5 := Lib.hid (HK.out.trans (KB.ofB (l := [bu, lb]) (HDW.out.size HF.out) hb5))
          have HD5 := Lib.hid (HDW.out.below hb5)
          have HF5 := Lib.hid (HA.out.f.kp HB5.out)
          have HVA5 := Lib.hid (HVA.out.below hb5)
          clear hw5 hb5
          refine (step_code w5 _ _ n HVA5.out HN.out (HD5.out.left HF5.out) z HZM.out.1).mono ?_
          rintro e w6 ⟨rfl, hb6⟩
          have HK6 := Lib.hid (HB5.out.trans (KB.ofB (l := [bu, lb]) (HD5.out.size HF5.out) hb6))
          have HD6 := Lib.hid (HD5.out.below hb6)
          have HF6 := Lib.hid (HA.out.f.kp HK6.out)
          rw [HHT.out]
          obtain ⟨r, hr⟩ : ∃ r, r = rmA fo bk z := ⟨_, rfl⟩
          rw [← hr]
          have HR := Lib.hid hr
          clear hr hb6 HB5 HD5 HF5 HVA5 HVA n0 n1 hcz hcu hfu hca x0 h0
          have v6 : w6.cell? ⟨bv, 0, none⟩ = some (.slice (some ⟨bl, 0, none⟩) V V) := cell_of HF6.out.lev rfl
          have l6 := HF6.out.row.cell htV
          have k6 := HF6.out.row.cell hvV
          have ht0 : (0 : Int) ≤ (t : Int) := by omega
          have htI : (t : Int) < (V : Int) := by omega
          obtain ⟨yt, hyt⟩ : ∃ y, y = lv t := ⟨_, rfl⟩
          obtain ⟨yv, hyv⟩ : ∃ y, y = lv v := ⟨_, rfl⟩
          rw [← hyt] at l6
          rw [← hyv] at k6
          have hwy : IntKind.i64.wrap (yv + 1) = yv + 1 := IntWalk.i64_in _ (by have := HLV.out v hvV; rw [← hyv] at this; omega)
          have HYT := Lib.hid hyt
          have HYV := Lib.hid hyv
          clear hyt hyv
          by_cases hr0 : r = 0
          · subst hr0
            go_upto_region 7 with fail
            go_quiet (fail)
            go_upto_region 4 with fail
            refine nameC fun w8 hw8 => ?_
            have HK8 : Hid (KB B [bu, lb] w w8) := Lib.hid (by rw [hw8.out]; repeat (first | with_reducible exact HK6.out | (with_reducible refine KB.drewN ?_ _)))
            have HD8 : Hid (DAW w8 bu lb n.arcs.length V us' fo bk) := Lib.hid (by rw [hw8.out]; repeat (first | with_reducible exact HD6.out | exact HD6.out.below (below_drewN (Below.refl _ _) _)))
            have HF8 := Lib.hid (HA.out.f.kp HK8.out)
            have x8 : w8.cell? ⟨bx, 0, none⟩ = some (.slice (some ⟨bu, 0, none⟩) V V) := cell_of HF8.out.ux rfl
            have hcu8 := HD8.out.us.cell hvV
            have hfu8 := HD8.out.us.frozen v
            rw [HJ.out.symm] at hcu8
            have hwj : IntKind.i64.wrap ((j : Int) + 1) = (j : Int) + 1 := IntWalk.i64_in _ (by omega)
            have HLS := Lib.hid (AdvL.step (z := z) HL.out hvV (by rw [HJ.out.symm, ← HLL.out]; exact hjlt) (by rw [HJ.out.symm, HZ.out, HLL.out]) (fun h => by rw [← HR.out] at h; omega))
            have HJ8 : Hid (us' v = j) := Lib.hid HJ.out.symm
            clear hw8
            go_wp2_with fail
            go_roundg (l.length - (j + 1))
            case measure => omega
            case rel =>
              refine ⟨updV us' v (us' v + 1), by rw [updV_same, HJ8.out, HLL.out], Lib.hid (HK8.out.setCell (by simp) HF8.out.bb.1 _ _), Lib.hid ?_, HLS⟩
              have := HD8.out.use HF8.out.ne v (us' v + 1)
              rw [HJ8.out] at this ⊢
              exact this
          · have hdec : decide (r = 0) = false := decide_eq_false hr0
            by_cases hty : yt = yv + 1
            · have f6 : w6.cell? ⟨bf, 0, none⟩ = some (.func (.func 28) #[] #[.pointer (some ⟨bs, 0, none⟩), .pointer (some ⟨bx, 0, none⟩), .pointer (some ⟨bh, 0, none⟩), .pointer (some ⟨bn, 0, none⟩), .pointer (some ⟨bv, 0, none⟩), .pointer (some ⟨bf, 0, none⟩)]) := cell_of HF6.out.fb rfl
              go_upto_region 7 with fail
              go_quiet (fail)
              go_wp2_with fail
              all_goals
                refine nameW fun w7 hw7 => ?_
                have HK7 : Hid (KB B [bu, lb] w w7) := Lib.hid (by rw [hw7.out]; exact HK6.out.drewN _)
                have HD7 : Hid (DAW w7 bu lb n.arcs.length V us' fo bk) := Lib.hid (by rw [hw7.out]; exact HD6.out.below (below_drewN (Below.refl _ _) _))
                have hr1 : 0 ≤ r := by rw [HR.out]; exact rm_nonneg HL.out.i.res HZM.out.1
                have hlt1 : lv t = lv v + 1 := by rw [← HYT.out, ← HYV.out]; exact hty
                have hlv0 := HA.out.l0
                have hDd := HD.out
                refine (HIH.out w7 us' fo bk t _ ⟨HA.out.f.kp HK7.out, HD7.out, HL.out.i, htV, by omega⟩ (by rw [hlt1]; omega) (by omega) (by omega)).mono ?_
                rintro e w9 ⟨got, us9, fo9, bk9, rfl, hk9, hd9, hp9⟩
                have HK9 := Lib.hid (HK7.out.trans hk9)
                have HF9 := Lib.hid (HA.out.f.kp HK9.out)
                have HP9 := Lib.hid hp9
                have HLT := Lib.hid hlt1
                have hgr := hp9.rng
                clear hw7 hk9 hp9 v6 l6 k6 f6 hlt1 hlv0 hDd
                by_cases hg0 : 0 < got
                · have HD9 := Lib.hid hd9
                  have hR1 := AdvL.rec1 (amt := amt) HN.out HL.out hvV HZM.out.1 HZM.out.2 HHT.out HLT.out hg0 (by rw [← HR.out]; omega) (by omega) HP9.out
                  have HR1 := Lib.hid hR1.2
                  have h9 : w9.cell? ⟨bh, 0, none⟩ = some (.pointer (some ⟨g, 0, none⟩)) := cell_of HF9.out.gh rfl
                  have HPC := Lib.hid (push_code HF9.out HD9.out HN.out HP9.out.i.res z got HZM.out.1 (by omega) (by rw [hR1.1, ← HR.out]; omega))
                  clear hd9 hR1
                  go_wp2_with fail
                  refine HPC.out.mono ?_
                  rintro e w10 ⟨rfl, hk10, hd10⟩
                  have HK10 := Lib.hid (HK9.out.trans hk10)
                  have HD10 := Lib.hid hd10
                  clear hk10 hd10 h9 HPC
                  go_wp2_with fail
                  go_ret
                  exact ⟨got, us9, _, _, rfl, HK10.out, HD10.out, HR1.out⟩
                · obtain rfl : got = 0 := by omega
                  obtain ⟨e1, e2, hL9, hD9, hU9⟩ := AdvL.rec0 HL.out HLT.out HP9.out hvV
                  rw [e1, e2] at hd9
                  have HD9 := Lib.hid hd9
                  have HL9 := Lib.hid hL9
                  have HDD := Lib.hid hD9
                  have HJ9 := Lib.hid (hU9.trans HJ.out.symm)
                  clear hd9 hL9 hD9 hU9 HP9 e1 e2
                  go_upto_region 4 with fail
                  refine nameC fun w8 hw8 => ?_
                  have HK8 : Hid (KB B [bu, lb] w w8) := Lib.hid (by rw [hw8.out]; repeat (first | with_reducible exact HK9.out | (with_reducible refine KB.drewN ?_ _)))
                  have HD8 : Hid (DAW w8 bu lb n.arcs.length V us9 fo bk) := Lib.hid (by rw [hw8.out]; repeat (first | with_reducible exact HD9.out | exact HD9.out.below (below_drewN (Below.refl _ _) _)))
                  have HF8 := Lib.hid (HA.out.f.kp HK8.out)
                  have x8 : w8.cell? ⟨bx, 0, none⟩ = some (.slice (some ⟨bu, 0, none⟩) V V) := cell_of HF8.out.ux rfl
                  have hcu8 := HD8.out.us.cell hvV
                  have hfu8 := HD8.out.us.frozen v
                  rw [HJ9.out] at hcu8
                  have hwj : IntKind.i64.wrap ((j : Int) + 1) = (j : Int) + 1 := IntWalk.i64_in _ (by omega)
                  have HLS := Lib.hid (AdvL.step (z := z) HL9.out hvV (by rw [HJ9.out, ← HLL.out]; exact hjlt) (by rw [HJ9.out, HZ.out, HLL.out]) (fun _ _ => by rw [HHT.out, Int.toNat_natCast]; exact HDD.out))
                  have HJ8 : Hid (us9 v = j) := Lib.hid (HJ9.out)
                  clear hw8
                  go_wp2_with fail
                  go_roundg (l.length - (j + 1))
                  case measure => omega
                  case rel =>
                    refine ⟨updV us9 v (us9 v + 1), by rw [updV_same, HJ8.out, HLL.out], Lib.hid (HK8.out.setCell (by simp) HF8.out.bb.1 _ _), Lib.hid ?_, HLS⟩
                    have := HD8.out.use HF8.out.ne v (us9 v + 1)
                    rw [HJ8.out] at this ⊢
                    exact this
            · have hdt : (yt == yv + 1) = false := beq_eq_false_iff_ne.2 hty
              have hdn : (yt != yv + 1) = true := bne_iff_ne.2 hty
              have hdd : decide (yt = yv + 1) = false := decide_eq_false hty
              go_upto_region 7 with fail
              go_quiet (fail)
              go_upto_region 4 with fail
              refine nameC fun w8 hw8 => ?_
              have HK8 : Hid (KB B [bu, lb] w w8) := Lib.hid (by rw [hw8.out]; repeat (first | with_reducible exact HK6.out | (with_reducible refine KB.drewN ?_ _)))
              have HD8 : Hid (DAW w8 bu lb n.arcs.length V us' fo bk) := Lib.hid (by rw [hw8.out]; repeat (first | with_reducible exact HD6.out | exact HD6.out.below (below_drewN (Below.refl _ _) _)))
              have HF8 := Lib.hid (HA.out.f.kp HK8.out)
              have x8 : w8.cell? ⟨bx, 0, none⟩ = some (.slice (some ⟨bu, 0, none⟩) V V) := cell_of HF8.out.ux rfl
              have hcu8 := HD8.out.us.cell hvV
              have hfu8 := HD8.out.us.frozen v
              rw [HJ.out.symm] at hcu8
              have hwj : IntKind.i64.wrap ((j : Int) + 1) = (j : Int) + 1 := IntWalk.i64_in _ (by omega)
              have HLS := Lib.hid (AdvL.step (z := z) HL.out hvV (by rw [HJ.out.symm, ← HLL.out]; exact hjlt) (by rw [HJ.out.symm, HZ.out, HLL.out]) (fun _ h => by rw [HHT.out, Int.toNat_natCast, ← HYT.out, ← HYV.out] at h; exact absurd h hty))
              have HJ8 : Hid (us' v = j) := Lib.hid HJ.out.symm
              clear hw8
              go_wp2_with fail
              go_roundg (l.length - (j + 1))
              case measure => omega
              case rel =>
                refine ⟨updV us' v (us' v + 1), by rw [updV_same, HJ8.out, HLL.out], Lib.hid (HK8.out.setCell (by simp) HF8.out.bb.1 _ _), Lib.hid ?_, HLS⟩
                have := HD8.out.use HF8.out.ne v (us' v + 1)
                rw [HJ8.out] at this ⊢
                exact this
        · go_wp2_with fail
          go_quiet (fail)
          go_wp2_with fail
          go_ret
          exact ⟨0, us', fo, bk, rfl, HK.out.drewN _, HDW.out.below (below_drewN (Below.refl _ _) _), HL.out.fin (by omega) (by rw [← HJ.out, ← HLL.out]; omega) hamt⟩
end Go.Proofs.Ytikddknhcfhnbaa
