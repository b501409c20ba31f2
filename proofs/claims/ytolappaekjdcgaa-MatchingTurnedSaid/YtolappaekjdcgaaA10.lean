/- The walk of reached, a closure. -/
import Derived.Test.YtolappaekjdcgaaA9
import Derived.Test.YtolappaekjdcgaaL4
namespace Go.Proofs.Ytolappaekjdcgaa
open Go.RowKit Go.Shelf Go.Deep Sm
/-- what does not change while the walk works: the boxes bL, bg, bR, bm, bf -/
structure VW (B : Nat) (w : World) (g : GrD) (bL bg bR bm bf ml mr bl br L R : Nat) (rf : Nat → Int) : Prop where
  gr : ∃ v2, w.heap[bg]? = some (.cells #[.int .i64 g.left, .int .i64 g.right, v2] 24 (0, 0)) ∧ IsEdges w (NB [ml, mr]) v2 g.edges
  lb : w.heap[bL]? = some (.cells #[.map (some ml)] 49 (0, 0))
  rb : w.heap[bR]? = some (.cells #[.map (some mr)] 49 (0, 0))
  mb : w.heap[bm]? = some (.cells #[.slice (some ⟨bl, 0, none⟩) L L, .slice (some ⟨br, 0, none⟩) R R] 54 (0, 0))
  fb : w.heap[bf]? = some (.cells #[.func (.func 37) #[] #[ptr bL, ptr bg, ptr bR, ptr bm, ptr bf]] 64 (0, 0))
  row : w.rowIs br 3 R (fun i => .int .i64 (rf i))
  ng : bg ∉ [ml, mr]
  nl : bL ∉ [ml, mr]
  nr : bR ∉ [ml, mr]
  nm : bm ∉ [ml, mr]
  nf : bf ∉ [ml, mr]
  nb : br ∉ [ml, mr]
  ne : ml ≠ mr
  base : B ≤ ml ∧ B ≤ mr
/-- the two maps -/
structure XW (w : World) (ml mr L N : Nat) (Sl Sr : Int → Bool) : Prop where
  left : ∃ n, SetB Try.prog 3 4 .i64 w ml n Sl ∧ n + unseen (Sn Sl) L ≤ L
  right : ∃ n, SetB Try.prog 3 4 .i64 w mr n Sr ∧ n + 4096 * unseen (Sn Sl) L ≤ N
section
variable {B : Nat} {w w' : World} {g : GrD} {bL bg bR bm bf ml mr bl br L R N : Nat} {Sl Sr : Int → Bool} {rf : Nat → Int}
theorem VW.kp (h : VW B w g bL bg bR bm bf ml mr bl br L R rf) (k0 : KB B [ml, mr] w w') : VW B w' g bL bg bR bm bf ml mr bl br L R rf := by
  have k := k0.kp
  obtain ⟨⟨v2, h1, h2⟩, h3, h4, h5, h6, h7, n1, n2, n3, n4, n5, n6, n7, n8⟩ := h
  exact ⟨⟨v2, (k.block _ (lt_heap h1) n1).trans h1, IsSl.kp h2 k⟩, (k.block _ (lt_heap h3) n2).trans h3, (k.block _ (lt_heap h4) n3).trans h4, (k.block _ (lt_heap h5) n4).trans h5, (k.block _ (lt_heap h6) n5).trans h6, h7.of_block (k.block _ h7.lt n6), n1, n2, n3, n4, n5, n6, n7, n8⟩
theorem XW.below (h : XW w ml mr L N Sl Sr) (hb : Below w.heap.size w w') : XW w' ml mr L N Sl Sr := by
  obtain ⟨⟨n, h1, h2⟩, ⟨m, h3, h4⟩⟩ := h
  exact ⟨⟨n, h1.below hb (Nat.le_refl _), h2⟩, ⟨m, h3.below hb (Nat.le_refl _), h4⟩⟩
theorem XW.lt (h : XW w ml mr L N Sl Sr) : ml < w.heap.size ∧ mr < w.heap.size := by
  obtain ⟨⟨n, h1, -⟩, ⟨m, h3, -⟩⟩ := h
  exact ⟨h1.lt, h3.lt⟩
theorem KB.ofX (hf : VW B w g bL bg bR bm bf ml mr bl br L R rf) (hd : XW w ml mr L N Sl Sr) (hb : Below w.heap.size w w') : KB B [ml, mr] w w' :=
  ⟨Kp.ofBelow hb, hb.mono (by have := hf.base.1; have := hd.lt.1; omega)⟩
end
/-- what the walk asks -/
structure WP (B : Nat) (w : World) (g : GrD) (bL bg bR bm bf ml mr bl br L R N : Nat) (Sl Sr : Int → Bool) (lf rf : Nat → Int) (v : Nat) : Prop where
  vw : VW B w g bL bg bR bm bf ml mr bl br L R rf
  xw : XW w ml mr L N Sl Sr
  inv : MInv (edB g) L R lf rf
  lt : v < L
  nn : N ≤ 4194304
def WalkW (B : Nat) (w : World) (g : GrD) (ml mr L R N : Nat) (Sl Sr : Int → Bool) (rf : Nat → Int) (v : Nat) (e : Ending) (w' : World) : Prop :=
  ∃ Sl' Sr', e = .returned (.tuple #[]) ∧ KB B [ml, mr] w w' ∧ XW w' ml mr L N Sl' Sr' ∧ WkY (edB g) L R rf (Sn Sl) (Sn Sr) v (Sn Sl') (Sn Sr')
set_option maxHeartbeats 4000000 in
theorem walk_any (B : Nat) (g : GrD) (bL bg bR bm bf ml mr bl br L R : Nat) (hg : GOk g L R) : ∀ (m : Nat) (w : World) (N : Nat) (Sl Sr : Int → Bool) (lf rf : Nat → Int) (v : Nat), WP B w g bL bg bR bm bf ml mr bl br L R N Sl Sr lf rf v → unseen (Sn Sl) L ≤ m →
    Calls Try.prog 37 #[.int .i64 (v : Int), .pointer (some ⟨bL, 0, none⟩), .pointer (some ⟨bg, 0, none⟩), .pointer (some ⟨bR, 0, none⟩), .pointer (some ⟨bm, 0, none⟩), .pointer (some ⟨bf, 0, none⟩)] w (WalkW B w g ml mr L R N Sl Sr rf v) := by
  intro m
  induction m using Nat.strongRecOn with
  | _ m ih =>
    intro w N Sl Sr lf rf v hp hm
    have HIH := Lib.hid ih
    have HP := Lib.hid hp
    have HG := Lib.hid hg
    have HM := Lib.hid hm
    obtain ⟨rn, hrn⟩ := nbs_of hg v
    have HN := Lib.hid hrn
    have hvL := hp.lt
    have hl512 := hg.l512
    have hr512 := hg.r512
    have HWFv := Lib.hid (wfI (x := (v : Int)) (by omega) (by omega))
    have hlb : w.cell? ⟨bL, 0, none⟩ = some (.map (some ml)) := cell_of hp.vw.lb rfl
    obtain ⟨nl, hsl, hnl⟩ := hp.xw.left
    have HSL := Lib.hid hsl
    have HNL := Lib.hid hnl
    clear ih hp hg hm hrn hsl hnl
    have hnl : nl < maxLen := by have := HNL.out; unfold maxLen; omega
    cases hseen : Sl (v : Int)
    · have HSeen := Lib.hid hseen
      clear hseen
      go_enter Try.func37, Try.ntmps37
      go_upto_region 2 with (first | (at_lookup; refine wpList_lookup_set (w := _) rfl _ _ 49 rfl Try.underlying3 Try.underlying49 Try.underlying4 (Try.zeroBool25 _) rfl HSL.out _ rfl HWFv.out ?_; rw [HSeen.out]) | (at_mapUpdate; refine wpList_update_set (w := _) rfl _ _ _ 49 rfl Try.underlying3 Try.underlying49 Try.underlying4 rfl HSL.out hnl _ rfl HWFv.out true rfl ?_; intro w1 hs1 hg1))
      have hK1 : KB B [ml, mr] w w1 := KB.grown hg1 (by simp) HP.out.vw.base.1 (by have := HP.out.vw.base.1; have := HSL.out.lt; omega)
      have hV1 := HP.out.vw.kp hK1
      have hun := unseen_add (S := Sn Sl) hvL HSeen.out
      obtain ⟨nr, hsr, hnr⟩ := HP.out.xw.right
      have hSr1 : SetB Try.prog 3 4 .i64 w1 mr nr Sr := hsr.kept hg1 (fun e => HP.out.vw.ne (Option.some.inj e).symm)
      obtain ⟨N0, hN0⟩ : ∃ N0, N = N0 + 4096 := ⟨N - 4096, by omega⟩
      have hX1 : XW w1 ml mr L N0 (updS Sl (v : Int) true) Sr := ⟨⟨nl + 1, hs1, by rw [Sn_upd]; have := HNL.out; omega⟩, ⟨nr, hSr1, by rw [Sn_upd]; omega⟩⟩
      have HN0 := Lib.hid hN0
      obtain ⟨⟨v2, hgb, hed⟩, -, -, -, -, -, -, -, -, -, -, -, -, -⟩ := id hV1
      have CF := Lib.hid (from_any w1 (NB [ml, mr]) _ g ⟨v2, rfl, hed⟩ HG.out v (by omega))
      have cg0 : w1.cell? ⟨bg, 0, none⟩ = some (.int .i64 g.left) := cell_of hgb rfl
      have cg1 : w1.cell? ⟨bg, 1, none⟩ = some (.int .i64 g.right) := cell_of hgb rfl
      have cg2 : w1.cell? ⟨bg, 2, none⟩ = some v2 := cell_of hgb rfl
      have HK1 := Lib.hid hK1
      have HV1 := Lib.hid hV1
      have HX1 := Lib.hid hX1
      have HUN := Lib.hid hun
      clear hs1 hg1 hK1 hV1 hX1 hSr1 hsr hnr hgb hed hun hlb hN0
      (try simp only [Act.put])
      go_wp2_with fail
      refine CF.out.mono ?_
      rintro e w2 ⟨A, c, rfl, hE, hB⟩
      have HE := Lib.hid hE
      have HK2 := Lib.hid (HK1.out.trans (KB.ofX HV1.out HX1.out hB))
      have HV2 := Lib.hid (HV1.out.kp (KB.ofX HV1.out HX1.out hB))
      have HX2 := Lib.hid (HX1.out.below hB)
      have HLen := Lib.hid (ofV_length g.edges v)
      obtain ⟨l, hl⟩ : ∃ l, l = ofV g.edges v := ⟨_, rfl⟩
      rw [← hl] at HE HN HLen ⊢
      have hlen : l.length ≤ 4096 := by have := HLen.out; have := HG.out.len; omega
      clear CF hE hB hl cg0 cg1 cg2 HLen HV1 HX1 HK1
      go_wp2_with fail
      go_loopw [19] (fun q19 wr => ∃ k : Nat, k ≤ l.length ∧ q19 = .int .i64 (k : Int) ∧ Hid (KB B [ml, mr] w2 wr) ∧ Hid (∃ Sl1 Sr1, XW wr ml mr L (N0 + k) Sl1 Sr1 ∧ Wk (edB g) L R rf (Sn Sl) (Sn Sr) v (Sn Sl1) (Sn Sr1) rn k)) (fun q _ => l.length - (intOf q).toNat)
      case atStart => exact ⟨0, Nat.zero_le _, rfl, Lib.hid (KB.refl _ _ _), Lib.hid ⟨_, Sr, (by rw [Nat.add_zero]; exact HX2.out), by rw [Sn_upd]; exact Wk.start⟩⟩
      case round =>
        obtain ⟨k, hk, rfl, HKr, HDr⟩ := hrel
        obtain ⟨Sl1, Sr1, hX, hWk⟩ := HDr.out
        have HX := Lib.hid hX
        have HW := Lib.hid hWk
        have HV := Lib.hid (HV2.out.kp HKr.out)
        clear HDr hX hWk
        by_cases hlt : k < l.length
        · have hlt2 : (k : Int) < (l.length : Int) := by omega
          have hk0 : (0 : Int) ≤ (k : Int) := by omega
          obtain ⟨b, off, rfl, hb, e0, e1⟩ := IsEdges.at_ (IsSl.kp HE.out HKr.out.kp : IsEdges wr _ _ l) (Below.refl _ _) hlt
          rw [← nthE_get hlt] at e0 e1
          rw [HN.out.val k hlt] at e1
          have hrR := HN.out.lt k hlt
          have HED := Lib.hid (HN.out.ed k hlt)
          obtain ⟨r, hr⟩ : ∃ r, r = rn k := ⟨_, rfl⟩
          rw [← hr] at e1 hrR HED
          have HR := Lib.hid hr
          obtain ⟨x1, hx1⟩ : ∃ x, x = (nthE l k).1 := ⟨_, rfl⟩
          rw [← hx1] at e0
          clear hr hx1
          go_upto_region 5 with fail
          refine nameC fun W3 hW3 => ?_
          have hB3 : Below wr.heap.size wr W3 := by rw [hW3.out]; exact (Below.refl _ _).alloc (Nat.le_refl _) _
          have hx3 : W3.heap[wr.heap.size]? = some (.cells #[.int .i64 x1, .int .i64 (r : Int)] 46 (0, 0)) := by rw [hW3.out, heap_alloc_if, if_pos rfl]
          have HK3 := Lib.hid (HKr.out.trans (KB.ofX HV.out HX.out hB3))
          have HX3 := Lib.hid (HX.out.below hB3)
          have HV3 := Lib.hid (HV.out.kp (KB.ofX HV.out HX.out hB3))
          have HB3 := Lib.hid hx3
          have hxb : W3.cell? ⟨wr.heap.size, 1, none⟩ = some (.int .i64 (r : Int)) := cell_of hx3 rfl
          have hrb : W3.cell? ⟨bR, 0, none⟩ = some (.map (some mr)) := cell_of HV3.out.rb rfl
          have HWF := Lib.hid (wfI (x := (r : Int)) (by omega) (by omega))
          have hxl := HX.out.lt
          have HNX : Hid (wr.heap.size ∉ [ml, mr]) := Lib.hid (by simp; omega)
          obtain ⟨nr, hsr, hnr⟩ := HX3.out.right
          have HSR := Lib.hid hsr
          have HNR := Lib.hid hnr
          have hnr2 : nr < maxLen := by have := HP.out.nn; have := HN0.out; unfold maxLen; omega
          obtain ⟨bx, hbx⟩ : ∃ bx, bx = wr.heap.size := ⟨_, rfl⟩
          rw [← hbx] at hxb HB3 HNX ⊢
          have HBX := Lib.hid hbx
          clear hbx hW3 hx3 hB3 e0 e1 hxl hsr hnr
          go_upto_region 6 with (at_mapUpdate; refine wpList_update_set (w := _) rfl _ _ _ 49 rfl Try.underlying3 Try.underlying49 Try.underlying4 rfl HSR.out hnr2 _ rfl HWF.out true rfl ?_; intro w8 hs8 hg8)
          have hKg : KB B [ml, mr] W3 w8 := KB.grown hg8 (by simp) HV3.out.base.2 (by have := HV3.out.base.2; have := HSR.out.lt; omega)
          have HV8 := Lib.hid (HV3.out.kp hKg)
          have HK8 := Lib.hid (HK3.out.trans hKg)
          have HB8 := Lib.hid ((hKg.kp.block bx (lt_heap HB3.out) HNX.out).trans HB3.out)
          have HX8 : Hid (XW w8 ml mr L (N0 + (k + 1)) Sl1 (updS Sr1 (r : Int) true)) := Lib.hid (by
            obtain ⟨⟨nl1, z1, z2⟩, -⟩ := HX3.out
            exact ⟨⟨nl1, z1.kept hg8 (fun e => HV3.out.ne (Option.some.inj e)), z2⟩, ⟨nr + 1, hs8, by have := HNR.out; omega⟩⟩)
          clear hs8 hg8 hKg hxb hrb
          have hxb : w8.cell? ⟨bx, 1, none⟩ = some (.int .i64 (r : Int)) := cell_of HB8.out rfl
          have hm1 : w8.cell? ⟨bm, 1, none⟩ = some (.slice (some ⟨br, 0, none⟩) R R) := cell_of HV8.out.mb rfl
          have hcr := HV8.out.row.cell hrR
          have hrI : (r : Int) < (R : Int) := by omega
          have hr0 : (0 : Int) ≤ (r : Int) := by omega
          obtain ⟨y, hy⟩ : ∃ y, y = rf r := ⟨_, rfl⟩
          rw [← hy] at hcr
          have HY := Lib.hid hy
          clear hy
          (try simp only [Act.put])
          by_cases hy0 : 0 ≤ y
          · have hfb : w8.cell? ⟨bf, 0, none⟩ = some (.func (.func 37) #[] #[ptr bL, ptr bg, ptr bR, ptr bm, ptr bf]) := cell_of HV8.out.fb rfl
            unfold ptr at hfb
            obtain ⟨u, hu⟩ : ∃ u : Nat, y = (u : Int) := ⟨y.toNat, by omega⟩
            subst hu
            obtain ⟨u', hu3, huL, hul⟩ := HP.out.inv.rl r hrR (by rw [← HY.out]; omega)
            have hu4 : u' = u := by have := HY.out; omega
            subst hu4
            have hlt3 : unseen (Sn Sl1) L < m := by
              have h1 := unseen_le HW.out.subl
              have h2 := unseen_add (S := Sn Sl) hvL HSeen.out
              have := HM.out
              omega
            have CW := Lib.hid (HIH.out _ hlt3 w8 (N0 + (k + 1)) Sl1 _ lf rf u' ⟨HV8.out, HX8.out, HP.out.inv, huL, by have := HP.out.nn; have := HN0.out; omega⟩ (Nat.le_refl _))
            have HUL := Lib.hid (And.intro hul (And.intro hu3 huL))
            clear hul hu3 hlt3
            go_wp2_with fail
            refine CW.out.mono ?_
            rintro e w9 ⟨Sl9, Sr9, rfl, hk9, hx9, hy9⟩
            have HK9 := Lib.hid (HK8.out.trans hk9)
            have HX9 := Lib.hid hx9
            have HW9 : Hid (Wk (edB g) L R rf (Sn Sl) (Sn Sr) v (Sn Sl9) (Sn Sr9) rn (k + 1)) := Lib.hid (HW.out.go hvL (HR.out ▸ hrR) (HR.out ▸ HED.out) (fun j hj => HN.out.lt j (by omega)) huL (HR.out ▸ HUL.out.2.1) (by rw [← HR.out, ← Sn_upd]; exact hy9))
            clear hk9 hx9 hy9 hfb hcr hm1 hxb
            go_wp2_with fail
            go_roundw
            case rel => exact ⟨k + 1, by omega, by go_num, HK9, Lib.hid ⟨Sl9, Sr9, HX9.out, HW9.out⟩⟩
            case measure => simp [intOf]; omega
          · have HW9 : Hid (Wk (edB g) L R rf (Sn Sl) (Sn Sr) v (Sn Sl1) (Sn (updS Sr1 (r : Int) true)) rn (k + 1)) := Lib.hid (by
              rw [Sn_upd, HR.out]
              exact HW.out.free hvL (HR.out ▸ hrR) (HR.out ▸ HED.out) (fun j hj => HN.out.lt j (by omega)) (by rw [← HR.out, ← HY.out]; omega))
            go_wp2_with fail
            go_roundw
            case rel => exact ⟨k + 1, by omega, by go_num, HK8, Lib.hid ⟨Sl1, _, HX8.out, HW9.out⟩⟩
            case measure => simp [intOf]; omega
        · have hnl2 : ¬ (k : Int) < (l.length : Int) := by omega
          obtain rfl : l.length = k := by omega
          go_wp2_with fail
          refine bodyPost_ret (results_none rfl _ _ _) rfl ⟨Sl1, Sr1, rfl, HK2.out.trans HKr.out, ?_, HW.out.done hvL HN.out.all⟩
          obtain ⟨x1, ⟨nr, y1, y2⟩⟩ := HX.out
          exact ⟨x1, ⟨nr, y1, by have := HN0.out; omega⟩⟩
    · have HSeen := Lib.hid hseen
      clear hseen
      go_enter Try.func37, Try.ntmps37
      go_wp2_with (at_lookup; refine wpList_lookup_set (w := _) rfl _ _ 49 rfl Try.underlying3 Try.underlying49 Try.underlying4 (Try.zeroBool25 _) rfl HSL.out _ rfl HWFv.out ?_; rw [HSeen.out])
      exact bodyPost_ret (results_none rfl _ _ _) rfl ⟨Sl, Sr, rfl, KB.refl _ _ _, HP.out.xw, WkY.old HSeen.out⟩
end Go.Proofs.Ytolappaekjdcgaa
