/- augment, the closure of find. -/
import Derived.Test.YtolappaekjdcgaaA7
namespace Go.Proofs.Ytolappaekjdcgaa
open Go.RowKit Go.Shelf Go.Deep Sm
theorem Try.zeroBool25 (w : World) : (zeroValue 4).run Try.prog w = .ok (.bool false) w := by kernel_rfl
theorem wfI {x : Int} (h1 : 0 ≤ x) (h2 : x ≤ 1000000) : (Lit.int .i64 x).wf = true := by
  simp [Lit.wf, IntKind.min, IntKind.max, IntKind.signed, IntKind.bits]; omega
theorem AugR.keep {E : Nat → Nat → Bool} {L R v q : Nat} {S S' : Int → Bool} {lf rf lf' rf' : Nat → Int} {ok : Bool} (h : AugR E L R S v lf rf ok S' lf' rf') (hq : q < R) (hs : Sn S q = true) : rf' q = rf q := by
  rcases h with ⟨-, h⟩ | ⟨-, -, h, -⟩
  · exact h.keep q hq hs
  · rw [h]
set_option maxHeartbeats 4000000 in
theorem aug_any (B : Nat) (g : GrD) (bg bs bm bf bl br ms L R : Nat) (hg : GOk g L R) : ∀ (m : Nat) (w : World) (n : Nat) (S : Int → Bool) (lf rf : Nat → Int) (v : Nat), AP B w g bg bs bm bf bl br ms L R n S lf rf v → unseen (Sn S) R ≤ m →
    Calls Try.prog 35 #[.int .i64 (v : Int), .pointer (some ⟨bg, 0, none⟩), .pointer (some ⟨bs, 0, none⟩), .pointer (some ⟨bm, 0, none⟩), .pointer (some ⟨bf, 0, none⟩)] w (AugW B w g bl br ms L R S lf rf v) := by
  intro m
  induction m using Nat.strongRecOn with
  | _ m ih =>
    intro w n S lf rf v hp hm
    have HIH := Lib.hid ih
    have HP := Lib.hid hp
    have HG := Lib.hid hg
    have HM := Lib.hid hm
    obtain ⟨rn, hrn⟩ := nbs_of hg v
    have HN := Lib.hid hrn
    obtain ⟨l5, hl5⟩ : ∃ l, l = [ms, bl, br] := ⟨_, rfl⟩
    have HL5 := Lib.hid hl5
    obtain ⟨⟨v2, hgb, hed⟩, hsb, hmb, hfb, -, -, -, -, -⟩ := id hp.fw
    have CF := Lib.hid (from_any w (NB [ms, bl, br]) _ g ⟨v2, rfl, hed⟩ hg v (by have := hp.lt; have := hg.l512; omega))
    have cg0 : w.cell? ⟨bg, 0, none⟩ = some (.int .i64 g.left) := cell_of hgb rfl
    have cg1 : w.cell? ⟨bg, 1, none⟩ = some (.int .i64 g.right) := cell_of hgb rfl
    have cg2 : w.cell? ⟨bg, 2, none⟩ = some v2 := cell_of hgb rfl
    clear ih hp hg hm hrn hl5 hgb hed hsb hmb hfb
    go_enter Try.func35, Try.ntmps35
    go_wp2_with fail
    refine CF.out.mono ?_
    rintro e w1 ⟨A, c, rfl, hE, hB⟩
    have HE := Lib.hid hE
    have HK1 := Lib.hid (KB.ofB (l := [ms, bl, br]) HP.out.fw HP.out.dw hB)
    have HD1 := Lib.hid (HP.out.dw.below hB)
    have HLen := Lib.hid (ofV_length g.edges v)
    obtain ⟨l, hl⟩ : ∃ l, l = ofV g.edges v := ⟨_, rfl⟩
    rw [← hl] at HE HN HLen ⊢
    have hlen : l.length ≤ 4096 := by have := HLen.out; have := HG.out.len; omega
    clear CF hE hB hl cg0 cg1 cg2 HLen
    go_wp2_with fail
    go_loopw [13] (fun q13 wr => ∃ k : Nat, k ≤ l.length ∧ q13 = .int .i64 (k : Int) ∧ Hid (KB B [ms, bl, br] w1 wr) ∧ Hid (∃ nk Sk, DW wr bl br ms L R nk Sk lf rf ∧ Sch (edB g) L R rf (Sn S) (Sn Sk) rn k)) (fun q _ => l.length - (intOf q).toNat)
    case atStart => exact ⟨0, Nat.zero_le _, rfl, Lib.hid (KB.refl _ _ _), Lib.hid ⟨n, S, HD1.out, Sch.start⟩⟩
    case round =>
      obtain ⟨k, hk, rfl, HKr, HDr⟩ := hrel
      obtain ⟨nk, Sk, hDk, hSk⟩ := HDr.out
      have HD := Lib.hid hDk
      have HS := Lib.hid hSk
      have HF := Lib.hid ((HP.out.fw.kp HK1.out).kp HKr.out)
      clear HDr hDk hSk
      by_cases hlt : k < l.length
      · have hlt2 : (k : Int) < (l.length : Int) := by omega
        have hk0 : (0 : Int) ≤ (k : Int) := by omega
        obtain ⟨b, off, rfl, hb, e0, e1⟩ := IsEdges.at_ (IsSl.kp HE.out HKr.out.kp : IsEdges wr _ _ l) (Below.refl _ _) hlt
        rw [← nthE_get hlt] at e0 e1
        rw [HN.out.val k hlt] at e1
        have hrR := HN.out.lt k hlt
        have HED := Lib.hid (HN.out.ed k hlt)
        obtain ⟨r, hr⟩ : ∃ r, r = rn k := ⟨_, rfl⟩
        rw [← hr] at e1 hrR HED
        have HR := Lib.hid hr
        obtain ⟨x1, hx1⟩ : ∃ x, x = (nthE l k).1 := ⟨_, rfl⟩
        rw [← hx1] at e0
        have hr512 : R ≤ 512 := HG.out.r512
        clear hr hx1
        go_upto_region 4 with fail
        refine nameC fun W3 hW3 => ?_
        have hB3 : Below wr.heap.size wr W3 := by rw [hW3.out]; exact (Below.refl _ _).alloc (Nat.le_refl _) _
        have hx3 : W3.heap[wr.heap.size]? = some (.cells #[.int .i64 x1, .int .i64 (r : Int)] 46 (0, 0)) := by rw [hW3.out, heap_alloc_if, if_pos rfl]
        have HK3 := Lib.hid (HKr.out.trans (KB.ofB HF.out HD.out hB3))
        have HD3 := Lib.hid (HD.out.below hB3)
        have HF3 := Lib.hid (HF.out.kp (KB.ofB HF.out HD.out hB3))
        have HX3 := Lib.hid hx3
        have hxb : W3.cell? ⟨wr.heap.size, 1, none⟩ = some (.int .i64 (r : Int)) := cell_of hx3 rfl
        have hsb : W3.cell? ⟨bs, 0, none⟩ = some (.map (some ms)) := cell_of HF3.out.sb rfl
        have HWF := Lib.hid (wfI (x := (r : Int)) (by omega) (by omega))
        have hms3 : wr.heap.size ≠ ms := fun e => by have := HD.out.set.lt; omega
        have hml3 : wr.heap.size ≠ bl := fun e => by have := HD.out.left.lt; omega
        have hmr3 : wr.heap.size ≠ br := fun e => by have := HD.out.right.lt; omega
        have HNX : Hid (wr.heap.size ∉ [ms, bl, br]) := Lib.hid (by simp; exact ⟨hms3, hml3, hmr3⟩)
        obtain ⟨bx, hbx⟩ : ∃ bx, bx = wr.heap.size := ⟨_, rfl⟩
        rw [← hbx] at hxb HX3 HNX ⊢
        have HBX := Lib.hid hbx
        clear hbx hW3 hx3 hB3 e0 e1 hms3 hml3 hmr3
        cases hseen : Sk (r : Int)
        · have HS3 := Lib.hid HD3.out.set
          have HSeen := Lib.hid hseen
          have hnk : nk < maxLen := by have := HD3.out.cnt; unfold maxLen; omega
          clear hseen
          go_wp2_with (first | (at_lookup; refine wpList_lookup_set (w := _) rfl _ _ 49 rfl Try.underlying3 Try.underlying49 Try.underlying4 (Try.zeroBool25 _) rfl HS3.out _ rfl HWF.out ?_; rw [HSeen.out]) | (at_mapUpdate; refine wpList_update_set (w := _) rfl _ _ _ 49 rfl Try.underlying3 Try.underlying49 Try.underlying4 rfl HS3.out hnk _ rfl HWF.out true rfl ?_; intro w8 hs8 hg8))
          have hKg : KB B [ms, bl, br] W3 w8 := KB.grown hg8 (by simp) HF3.out.base.1 (by have := HF3.out.base.1; have := HS3.out.lt; omega)
          have HD8 := Lib.hid (HD3.out.grow hrR HSeen.out hs8 hg8 HF3.out.ne.1 HF3.out.ne.2.1)
          have HK8 := Lib.hid (HK3.out.trans hKg)
          have HF8 := Lib.hid (HF3.out.kp hKg)
          have HX8 := Lib.hid ((hKg.kp.block bx (lt_heap HX3.out) HNX.out).trans HX3.out)
          clear hs8 hg8 hKg hxb hsb
          have hxb : w8.cell? ⟨bx, 1, none⟩ = some (.int .i64 (r : Int)) := cell_of HX8.out rfl
          have hm0 : w8.cell? ⟨bm, 0, none⟩ = some (.slice (some ⟨bl, 0, none⟩) L L) := cell_of HF8.out.mb rfl
          have hm1 : w8.cell? ⟨bm, 1, none⟩ = some (.slice (some ⟨br, 0, none⟩) R R) := cell_of HF8.out.mb rfl
          have hcr := HD8.out.right.cell hrR
          have hrI : (r : Int) < (R : Int) := by omega
          have hr0 : (0 : Int) ≤ (r : Int) := by omega
          obtain ⟨y, hy⟩ : ∃ y, y = rf r := ⟨_, rfl⟩
          rw [← hy] at hcr
          have HY := Lib.hid hy
          clear hy
          go_upto_region 6 with fail
          (try simp only [Act.put])
          go_cut [40] (fun c W => ∃ ok, c = .bool ok ∧ Hid (KB B [ms, bl, br] w8 W) ∧ Hid (∃ n1 S1 lf1 rf1, DW W bl br ms L R n1 S1 lf1 rf1 ∧ ((ok = true ∧ AugY (edB g) L R (Sn S) v lf rf (upd lf1 v (r : Int)) (upd rf1 r (v : Int))) ∨ (ok = false ∧ lf1 = lf ∧ rf1 = rf ∧ Sch (edB g) L R rf (Sn S) (Sn S1) rn (k + 1)))))
          case first =>
            by_cases hy0 : y < 0
            · have hdy : decide (y < 0) = true := decide_eq_true hy0
              go_quiet (fail)
              go_wp2_with fail
              go_meet
              case rel =>
                refine ⟨true, rfl, Lib.hid (KB.ofB HF8.out HD8.out (below_drewN (Below.refl _ _) _)), Lib.hid ⟨nk + 1, _, lf, rf, HD8.out.below (below_drewN (Below.refl _ _) _), .inl ⟨rfl, aug_free HP.out.inv HP.out.lt hrR HED.out ?_ (by rw [← HY.out]; exact hy0) (fun h => by obtain ⟨q, a1, -, a3⟩ := HP.out.own h; exact ⟨q, a1, a3⟩)⟩⟩⟩
                cases e : Sn S r
                · rfl
                · exact absurd (HS.out.sub r hrR e) (by show ¬ Sk (r : Int) = true; rw [HSeen.out]; decide)
            · have hdy : decide (y < 0) = false := decide_eq_false hy0
              have hfb : w8.cell? ⟨bf, 0, none⟩ = some (.func (.func 35) #[] #[ptr bg, ptr bs, ptr bm, ptr bf]) := cell_of HF8.out.fb rfl
              unfold ptr at hfb
              obtain ⟨u, hu⟩ : ∃ u : Nat, y = (u : Int) := ⟨y.toNat, by omega⟩
              subst hu
              obtain ⟨u', hu3, huL, hul⟩ := HP.out.inv.rl r hrR (by rw [← HY.out]; omega)
              have hu4 : u' = u := by have := HY.out; omega
              subst hu4
              have hunr := unseen_add (S := Sn Sk) hrR HSeen.out
              have hle := unseen_le HS.out.sub
              have HA8 : Hid (AP B w8 g bg bs bm bf bl br ms L R (nk + 1) (updS Sk (r : Int) true) lf rf u') := Lib.hid ⟨HF8.out, HD8.out, HP.out.inv, huL, fun _ => ⟨r, hul, hrR, by rw [Sn_upd]; exact addS_same _ _⟩⟩
              have HIU := HIH.out (unseen (addS (Sn Sk) r) R) (by have := HM.out; omega)
              have HIC : ∀ W, Below w8.heap.size w8 W → Hid (Calls Try.prog 35 #[.int .i64 (u' : Int), .pointer (some ⟨bg, 0, none⟩), .pointer (some ⟨bs, 0, none⟩), .pointer (some ⟨bm, 0, none⟩), .pointer (some ⟨bf, 0, none⟩)] W (AugW B W g bl br ms L R (updS Sk (r : Int) true) lf rf u')) := fun W hW =>
                Lib.hid (HIU W (nk + 1) _ lf rf u' ⟨HF8.out.kp (KB.ofB HF8.out HD8.out hW), HD8.out.below hW, HP.out.inv, huL, HA8.out.own⟩ (by rw [Sn_upd]; exact Nat.le_refl _))
              have hy1 : ¬ (u' : Int) < 0 := hy0
              have HUL := Lib.hid (And.intro hul (And.intro hu3 huL))
              clear hunr hle hul hu3 HIU HA8 hy0
              go_region_held3 (fun w' => w'.cell? ⟨bm, 1, none⟩ = some (.slice (some ⟨br, 0, none⟩) R R) ∧ w'.cell? ⟨bx, 1, none⟩ = some (.int .i64 (r : Int)) ∧ w'.cell? ⟨br, r, none⟩ = some (.int .i64 (u' : Int)) ∧ w'.cell? ⟨bf, 0, none⟩ = some (.func (.func 35) #[] #[.pointer (some ⟨bg, 0, none⟩), .pointer (some ⟨bs, 0, none⟩), .pointer (some ⟨bm, 0, none⟩), .pointer (some ⟨bf, 0, none⟩)])) (first | with_reducible exact ⟨hm1, hxb, hcr, hfb⟩ | with_reducible exact ⟨s0, s1, s2, s3⟩ | go_keep) ((go_at_call 35; refine (HIC _ (by repeat (first | with_reducible exact Below.refl _ _ | (with_reducible refine Below.drew ?_)))).out.mono ?_; rintro e w9 ⟨ok, n9, S9, lf9, rf9, rfl, hk9, hd9, hr9⟩; have HK9 : Hid (KB B [ms, bl, br] w8 w9) := KB.trans (by repeat (first | with_reducible exact KB.refl _ _ _ | (with_reducible refine KB.drew ?_))) hk9; have HD9 := Lib.hid hd9; have HR9 := Lib.hid hr9; have HF9 := Lib.hid (HF8.out.kp HK9.out); have s0 : w9.cell? ⟨bm, 1, none⟩ = some (.slice (some ⟨br, 0, none⟩) R R) := cell_of HF9.out.mb rfl; have s1 : w9.cell? ⟨bx, 1, none⟩ = some (.int .i64 (r : Int)) := cell_of ((HK9.out.kp.block bx (lt_heap HX8.out) HNX.out).trans HX8.out) rfl; have s2 : w9.cell? ⟨br, r, none⟩ = some (.int .i64 (u' : Int)) := (HD9.out.right.cell hrR).trans (by rw [(AugR.keep HR9.out (q := r) hrR (by rw [Sn_upd]; exact addS_same _ _)).trans HUL.out.2.1]); have s3 : w9.cell? ⟨bf, 0, none⟩ = some (.func (.func 35) #[] #[.pointer (some ⟨bg, 0, none⟩), .pointer (some ⟨bs, 0, none⟩), .pointer (some ⟨bm, 0, none⟩), .pointer (some ⟨bf, 0, none⟩)]) := cell_of HF9.out.fb rfl; clear hk9 hd9 hr9))
              go_wp2_with fail
              go_meet
              case rel =>
                refine ⟨ok, rfl, HK9, Lib.hid ⟨n9, S9, lf9, rf9, HD9.out, ?_⟩⟩
                rcases HR9.out with ⟨e, hy⟩ | ⟨e, e1, e2, hn⟩
                · refine .inl ⟨e, aug_yes (u := u') HP.out.inv HP.out.lt hrR HED.out HS.out.sub HSeen.out HUL.out.2.1 (fun h => ?_) (by rw [← Sn_upd]; exact hy)⟩
                  obtain ⟨q, a1, a2, a3⟩ := HP.out.own h
                  exact ⟨q, a1, a2, HS.out.sub q a2 a3⟩
                · refine .inr ⟨e, e1, e2, HS.out.fail (u := u') (HR.out ▸ hrR) (fun j hj => HN.out.lt j (by omega)) (HR.out ▸ HUL.out.2.1) huL ?_⟩
                  rw [← HR.out, ← Sn_upd]
                  exact hn
          case rest =>
            obtain ⟨ok, rfl, HKW, HDW⟩ := hcut
            obtain ⟨n1, S1, lf1, rf1, hDW, hRW⟩ := HDW.out
            have HDX := Lib.hid hDW
            have HKX := Lib.hid (HK8.out.trans HKW.out)
            have HFX := Lib.hid (HF8.out.kp HKW.out)
            have HXX := Lib.hid ((HKW.out.kp.block bx (lt_heap HX8.out) HNX.out).trans HX8.out)
            clear HDW hDW hm0 hm1 hxb hcr HK8 HF8 HX8 HD8 HKW HY HSeen hnk HS3
            rcases hRW with ⟨rfl, hY⟩ | ⟨rfl, rfl, rfl, hN⟩
            · have HYY := Lib.hid hY
              have hm0 : wc.cell? ⟨bm, 0, none⟩ = some (.slice (some ⟨bl, 0, none⟩) L L) := cell_of HFX.out.mb rfl
              have hm1 : wc.cell? ⟨bm, 1, none⟩ = some (.slice (some ⟨br, 0, none⟩) R R) := cell_of HFX.out.mb rfl
              have hxb : wc.cell? ⟨bx, 1, none⟩ = some (.int .i64 (r : Int)) := cell_of HXX.out rfl
              have hvL := HP.out.lt
              have hvI : (v : Int) < (L : Int) := by omega
              have hv0 : (0 : Int) ≤ (v : Int) := by omega
              have hcl := HDX.out.left.cell hvL
              have hcr := HDX.out.right.cell hrR
              have hfl := HDX.out.left.frozen v
              have hfr := HDX.out.right.frozen r
              generalize lf1 v = yl at hcl
              generalize rf1 r = yr at hcr
              have hne := HFX.out.ne.2.2
              have hn1 : bl ≠ bm := fun e => HFX.out.nm (by rw [← e]; simp)
              have hn2 : br ≠ bm := fun e => HFX.out.nm (by rw [← e]; simp)
              have hn3 : bl ≠ bx := fun e => HNX.out (by rw [← e]; simp)
              have hn4 : br ≠ bx := fun e => HNX.out (by rw [← e]; simp)
              clear hY
              go_wp2_with fail
              go_region
              have HKE : Hid (KB B [ms, bl, br] w (((wc.setCell ⟨bl, v, none⟩ (.int .i64 (r : Int))).setCell ⟨br, r, none⟩ (.int .i64 (v : Int))).drew)) := Lib.hid (((HK1.out.trans (HKX.out.setCell (b := bl) (by simp) HFX.out.base.2.1 v (.int .i64 (r : Int)))).setCell (b := br) (by simp) HFX.out.base.2.2 r (.int .i64 (v : Int))).drew)
              have HDE : Hid (DW (((wc.setCell ⟨bl, v, none⟩ (.int .i64 (r : Int))).setCell ⟨br, r, none⟩ (.int .i64 (v : Int))).drew) bl br ms L R n1 S1 (upd lf1 v (r : Int)) (upd rf1 r (v : Int))) := Lib.hid (((HDX.out.row_l HFX.out.ne.2.2 HFX.out.ne.1).row_r HFX.out.ne.2.2 HFX.out.ne.2.1).below (below_drewN (Below.refl _ _) 1))
              generalize (((wc.setCell ⟨bl, v, none⟩ (.int .i64 (r : Int))).setCell ⟨br, r, none⟩ (.int .i64 (v : Int))).drew) = WE at HKE HDE
              go_wp2_with fail
              go_ret
              exact ⟨true, n1, S1, _, _, rfl, HKE.out, HDE.out, .inl ⟨rfl, HYY.out⟩⟩
            · have HNN := Lib.hid hN
              clear hN
              go_wp2_with fail
              exact ⟨⟨k + 1, by omega, by go_num, HKX, Lib.hid ⟨n1, S1, HDX.out, HNN.out⟩⟩, by simp [intOf]; omega⟩
        · have HSN := Lib.hid (HS.out.seen (by rw [← HR.out]; exact hseen))
          have HS3 := Lib.hid HD3.out.set
          have HSeen := Lib.hid hseen
          clear hseen
          go_wp2_with (at_lookup; refine wpList_lookup_set (w := _) rfl _ _ 49 rfl Try.underlying3 Try.underlying49 Try.underlying4 (Try.zeroBool25 _) rfl HS3.out _ rfl HWF.out ?_; rw [HSeen.out])
          exact ⟨⟨k + 1, by omega, by go_num, HK3, Lib.hid ⟨nk, Sk, HD3.out, HSN.out⟩⟩, by simp [intOf]; omega⟩
      · have hnl : ¬ (k : Int) < (l.length : Int) := by omega
        obtain rfl : l.length = k := by omega
        go_wp2_with fail
        go_ret
        exact ⟨false, nk, Sk, lf, rf, rfl, HK1.out.trans HKr.out, HD.out, .inr ⟨rfl, rfl, rfl, HS.out.none fun q _ hq => HN.out.all q hq⟩⟩
end Go.Proofs.Ytolappaekjdcgaa
