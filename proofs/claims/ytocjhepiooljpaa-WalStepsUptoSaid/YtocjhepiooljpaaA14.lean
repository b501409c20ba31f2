/- Append, of the package and of the reference. -/
import Derived.Test.YtocjhepiooljpaaA13
import Derived.Test.YtocjhepiooljpaaT10
namespace Go.Proofs.Ytocjhepiooljpaa
open Go.RowKit Go.Deep Go.Shelf

set_option maxHeartbeats 400000 in
theorem clipR_any (w : World) (A : Option Addr) (n c : Nat) (hn : n ≤ c) (_hc : c ≤ 9223372036854775807) :
    Calls Try.prog 37 #[.slice A n c] w fun e w' => e = .returned (.slice A n n) ∧ w = w' := by
  go_enter Try.func37, Try.ntmps37
  go_wp2
  go_ret
  exact ⟨by simp, rfl⟩
set_option maxRecDepth 20000 in
set_option maxHeartbeats 1000000 in
theorem cloneB_any (w : World) (M : Nat → Prop) (u : Value) (b : List UInt8) (hl : b.length ≤ 140737488355328) (h : IsBytes w M u b) :
    Calls Try.prog 38 #[u] w fun e w' => (∃ v, e = .returned v ∧ IsBytes w' (fun q => w.heap.size ≤ q) v b) ∧ Below w.heap.size w w' := by
  obtain ⟨A, c, rfl, hc1, hc2, hb⟩ := h
  have hnil := fun w => Lib.run_eql_slice_nil (P := Try.prog) w 35 5 A b.length c 0 0 Try.underlying35
  cases A with
  | none =>
    have h0 : b = [] := by
      rcases Nat.eq_zero_or_pos b.length with h0 | h0
      · exact List.eq_nil_of_length_eq_zero h0
      · obtain ⟨_, _, e, _⟩ := hb h0; cases e
    subst h0
    clear hb hnil
    have hnil := fun w => Lib.run_eql_slice_nil (P := Try.prog) w 35 5 none 0 c 0 0 Try.underlying35
    show Calls Try.prog 38 #[.slice none 0 c] w _
    go_enter Try.func38, Try.ntmps38
    go_wp2_with fail
    go_ret
    exact ⟨⟨_, rfl, none, 0, rfl, Nat.le_refl _, by omega, fun h => absurd h (by simp)⟩, Below.refl _ _⟩
  | some ad =>
    have HBY := Lib.hid hb
    clear hb
    go_enter Try.func38, Try.ntmps38
    go_wp2_with (at_builtin; refine wpList_appB (W0 := w) (M := M) rfl (.tmp 5) (.tmp 6) rfl w.heap.size w.heap.size (.slice (some ⟨w.heap.size, 0, none⟩) 0 0) [] rfl (OwnB.empty (heap_alloc_new w _) (Nat.le_refl _)) (some ad) b.length c b rfl rfl (HBY.out.below ((Below.refl _ _).alloc (Nat.le_refl _) _)) (by simpa using hl) (by simp) (Nat.le_refl _) ((Below.refl _ _).alloc (Nat.le_refl _) _) ?_; intro v1 w1 HO1 HB1 HZ1)
    go_wp2_with fail
    go_ret
    exact ⟨⟨_, rfl, HO1.out.isBytes⟩, HB1.out⟩
/-- what Append answers -/
def appendL (l : LogD) (b : List UInt8) : LogD × Int := if okL l then (if wrap64 (l.many - usedI l.recs) < (secs b.length : Int) then (zeroL, 2) else (⟨l.many, l.recs ++ [b], l.synced⟩, 0)) else (zeroL, 1)
theorem chkL_ok {l : LogD} (h : okL l = true) : chkL l = 0 := by simp [chkL, h]
theorem chkL_no {l : LogD} (h : okL l = false) : chkL l = 1 := by simp [chkL, h]
theorem mat_snoc {w' : World} {M : Nat → Prop} {base : Nat} {e : TypeId} {v u : Value} {ss : List (List UInt8)} {vs : Nat → Value} {b : List UInt8} (hown : w'.ownsRow base e 1 v (ss.length + 1) (flat 1 ss.length (fun i _ => vs i) ++ [u]))
    (hvs : ∀ i, i < ss.length → IsBytes w' M (vs i) (ss.getD i [])) (hu : IsBytes w' M u b) (hM : ∀ q, base ≤ q → M q) : IsMat w' M v (ss ++ [b]) := by
  refine mat_of_own hown (by simp) (fun i hi => ?_) hM
  rw [List.length_append, List.length_singleton] at hi
  have hfl := flat_length 1 ss.length (fun i _ => vs i)
  rw [Nat.mul_one] at hfl
  by_cases hl : i < ss.length
  · have e1 : (flat 1 ss.length (fun i _ => vs i) ++ [u]).getD i .nilIface = vs i := by rw [List.getD_eq_getElem?_getD, List.getElem?_append_left (by omega)]; simp [flat, hl]
    have e2 : (ss ++ [b]).getD i [] = ss.getD i [] := by rw [List.getD_eq_getElem?_getD, List.getElem?_append_left hl, ← List.getD_eq_getElem?_getD]
    rw [e1, e2]
    exact hvs i hl
  · obtain rfl : i = ss.length := by omega
    rw [List.getD_eq_getElem?_getD, List.getElem?_append_right (by omega), List.getD_eq_getElem?_getD, List.getElem?_append_right (by omega), hfl]
    simpa using hu
theorem lens_flat {w : World} {M : Nat → Prop} {ss : List (List UInt8)} {vs : Nat → Value} (h : ∀ i, i < ss.length → IsBytes w M (vs i) (ss.getD i [])) : ∀ u ∈ flat 1 ss.length (fun i _ => vs i), u.oneCell' = true := one_mat h

set_option maxRecDepth 20000 in
set_option maxHeartbeats 4000000 in
theorem append_any (w : World) (M : Nat → Prop) (l : LogD) (v u : Value) (b : List UInt8) (hf : FitR l.recs) (hb : b.length ≤ 140737488355328) (h : IsLog w M v l) (hu : IsBytes w M u b) :
    Calls Try.prog 15 #[v, u] w (RetLogE (New M w) w (appendL l b)) := by
  have CC := Lib.hid fun (W : World) (hB : Below w.heap.size w W) => lcheck_any W M l v hf (h.below hB)
  obtain ⟨rv, rfl, A, c, rfl, hc1, hc2, hm⟩ := id h
  have hfl := hf.len
  have CU := Lib.hid fun (W : World) (hB : Below w.heap.size w W) => used_any W M A c l.recs (by omega) hf.lens (hm.keep fun _ _ hp => hB.cell hp)
  obtain ⟨uA, uc, rfl, hu1, hu2, hu3⟩ := id hu
  have HM := Lib.hid hm
  have HU := Lib.hid hu
  have CS := Lib.hid fun (W : World) A n c hn => sectors_any W A n c hn
  obtain ⟨W1, hW1⟩ : ∃ W1, W1 = (w.alloc (.cells #[.int .i64 l.many, .slice A l.recs.length c, .int .i64 l.synced] 29)).alloc (.cells #[.int .i64 0, .slice none 0 0, .int .i64 0] 29) := ⟨_, rfl⟩
  have hB1 : Below w.heap.size w W1 := by rw [hW1]; exact ((Below.refl w.heap.size w).alloc (Nat.le_refl _) _).alloc (by simp) _
  have hz : W1.heap.size = w.heap.size + 2 := by rw [hW1]; simp
  have k0 : W1.heap[w.heap.size]? = some (.cells #[.int .i64 l.many, .slice A l.recs.length c, .int .i64 l.synced] 29 (0, 0)) := by rw [hW1]; exact heap2_0 _ _ _
  have k1 : W1.heap[w.heap.size + 1]? = some (.cells #[.int .i64 0, .slice none 0 0, .int .i64 0] 29 (0, 0)) := by rw [hW1]; exact heap2_1 _ _ _
  have HW := Lib.hid hW1
  have HB := Lib.hid hB1
  have HZ := Lib.hid hz
  have HK0 := Lib.hid k0
  have HK1 := Lib.hid k1
  obtain ⟨x, hx⟩ : ∃ x, x = usedI l.recs := ⟨_, rfl⟩
  rw [← hx] at CU
  have HX := Lib.hid hx
  clear hB1 h hz k0 k1 hu hu3 hm hf hx
  go_enter Try.func15, Try.ntmps15
  go_wp2_with fail
  rw [← HW.out]
  clear hW1
  refine (CC.out W1 HB.out).mono ?_
  rintro e w1 ⟨rfl, hb1⟩
  have KL := Lib.hid ((hb1.block w.heap.size (by rw [HZ.out]; omega)).trans HK0.out)
  have KR := Lib.hid ((hb1.block (w.heap.size + 1) (by rw [HZ.out]; omega)).trans HK1.out)
  obtain ⟨⟨c0, c1, c2⟩, ⟨f0, f1, f2⟩⟩ := blk3 (Below.refl _ _) KL.out (Nat.lt_succ_self _)
  obtain ⟨⟨r0, r1, r2⟩, ⟨q0, q1, q2⟩⟩ := blk3 (Below.refl _ _) KR.out (Nat.lt_succ_self _)
  have hsz := hb1.size
  rw [HZ.out] at hsz
  have HF := Lib.hid (HB.out.trans (hb1.mono HB.out.size))
  clear hb1
  by_cases hok : okL l = true
  · rw [chkL_ok hok]
    obtain ⟨y, hy⟩ : ∃ y, y = wrap64 (l.many - x) := ⟨_, rfl⟩
    by_cases hlt : y < (secs b.length : Int)
    · have HS := Lib.hid (show appendL l b = (zeroL, 2) by unfold appendL; rw [hok, ← HX.out, ← hy]; simp [hlt])
      have hyw : wrap64 (l.many - x) = y := hy.symm
      have hlt' : decide (y < ((secs b.length : Nat) : Int)) = true := decide_eq_true hlt
      clear hok hy
      go_wp2_with fail
      go_quiet ((first | (go_at_call 35; exact Calls.quiet_of_same ((CS.out _ _ _ _ hb).mono fun e w' h => ⟨h.1, h.2.symm⟩)) | (go_at_call 36; exact Calls.quiet_of_same (CU.out _ (below_drewN HF.out _)))))
      go_wp2_with fail
      refine bodyPost_ret (v := .tuple #[.agg #[.int .i64 0, .slice none 0 0, .int .i64 0], .int .i64 2]) (by simp [results, Try.results15, go_sem, r0, r1, r2]) rfl (RetLogE.mk IsLog.zero ?_ HS.out)
      refine Below.setCell (Below.setCell (Below.setCell (below_drewN HF.out _) ?_ _) ?_ _) ?_ _ <;> simp
    · have HS := Lib.hid (show appendL l b = (⟨l.many, l.recs ++ [b], l.synced⟩, 0) by unfold appendL; rw [hok, ← HX.out, ← hy]; simp [hlt])
      have hyw : wrap64 (l.many - x) = y := hy.symm
      have hlt' : decide (y < ((secs b.length : Nat) : Int)) = false := decide_eq_false hlt
      clear hok hy
      go_wp2_with fail
      go_quiet ((first | (go_at_call 35; exact Calls.quiet_of_same ((CS.out _ _ _ _ hb).mono fun e w' h => ⟨h.1, h.2.symm⟩)) | (go_at_call 36; exact Calls.quiet_of_same (CU.out _ (below_drewN HF.out _)))))
      go_upto_region 6 with fail
      refine nameC fun W2 hW2 => ?_
      have HF2 := Lib.hid (show Below w.heap.size w W2 by rw [hW2.out]; exact below_drewN HF.out _)
      have KL2 := Lib.hid (show W2.heap[w.heap.size]? = some (.cells #[.int .i64 l.many, .slice A l.recs.length c, .int .i64 l.synced] 29 (0, 0)) by rw [hW2.out]; exact KL.out)
      have KR2 := Lib.hid (show W2.heap[w.heap.size + 1]? = some (.cells #[.int .i64 0, .slice none 0 0, .int .i64 0] 29 (0, 0)) by rw [hW2.out]; exact KR.out)
      have hsz2 : w.heap.size + 2 ≤ W2.heap.size := by rw [hW2.out]; exact hsz
      clear hW2 c0 c1 c2 f0 f1 f2 r0 r1 r2 q0 q1 q2 HF KL KR hsz hyw hlt' hlt
      obtain ⟨⟨c0, c1, c2⟩, ⟨f0, f1, f2⟩⟩ := blk3 (Below.refl _ _) KL2.out (Nat.lt_succ_self _)
      obtain ⟨⟨r0, r1, r2⟩, ⟨q0, q1, q2⟩⟩ := blk3 (Below.refl _ _) KR2.out (Nat.lt_succ_self _)
      go_wp2_with fail
      refine (clipR_any W2 A l.recs.length c hc1 hc2).mono ?_
      rintro e w3 ⟨rfl, rfl⟩
      go_wp2_with fail
      refine (cloneB_any W2 M _ b hb (HU.out.below HF2.out)).mono ?_
      rintro e w4 ⟨⟨v4, rfl, hv4⟩, hb4⟩
      have hv4' := hv4
      obtain ⟨bA, bc, rfl, -, -, -⟩ := hv4'
      have HV4 := Lib.hid hv4
      have HF4 := Lib.hid (HF2.out.trans (hb4.mono HF2.out.size))
      have KL4 := Lib.hid ((hb4.block w.heap.size (by omega)).trans KL2.out)
      have KR4 := Lib.hid ((hb4.block (w.heap.size + 1) (by omega)).trans KR2.out)
      have hsz4 : w.heap.size + 2 ≤ w4.heap.size := Nat.le_trans hsz2 hb4.size
      clear hv4 hb4 c0 c1 c2 f0 f1 f2 r0 r1 r2 q0 q1 q2
      obtain ⟨⟨c0, c1, c2⟩, ⟨f0, f1, f2⟩⟩ := blk3 (Below.refl _ _) KL4.out (Nat.lt_succ_self _)
      obtain ⟨⟨r0, r1, r2⟩, ⟨q0, q1, q2⟩⟩ := blk3 (Below.refl _ _) KR4.out (Nat.lt_succ_self _)
      obtain ⟨i0, hi, hz0, hz1, hz2⟩ := info_parts Try.infoSl
      obtain ⟨vs, hvs1, hvs2⟩ := HM.out
      have HVS := Lib.hid hvs2
      have HSRC := Lib.hid (cells_flat_any hvs1 (by omega) w4 HF4.out)
      have HNN := Lib.hid (show A = none → l.recs.length = 0 from fun e => by
        rcases Nat.eq_zero_or_pos l.recs.length with h | h
        · exact h
        · obtain ⟨_, _, e', _⟩ := hvs1 h; rw [e] at e'; cases e')
      clear hvs1 hvs2
      go_wp2_with (at_builtin; refine wpList_append_grows _ rfl _ _ 22 rfl 35 i0 (.slice none 0 0) 1 24 Try.underlying22 hi hz0 hz1 hz2 rfl (by decide) A l.recs.length l.recs.length (flat 1 l.recs.length (fun i _ => vs i)) rfl ?hnone ?hlo ?holds ⟨w4.heap.size, 0, none⟩ 1 1 [.slice bA b.length bc] rfl rfl ?hc ?h1c ?hfull ?b1 ?b2 ?_)
      case hnone => intro e; exact ⟨HNN.out e, HNN.out e⟩
      case hlo => exact flat_length _ _ _
      case holds =>
        intro q e j y hy
        have h0 : 0 < l.recs.length := by
          have := (flat_get hy).1
          omega
        obtain ⟨ad, e2, hh⟩ := HSRC.out h0
        rw [e] at e2
        injection e2 with e2
        subst e2
        have h1 := hh j y hy
        rw [World.cell?_alloc_lt _ _ _ (lt_of_cell h1)]
        exact h1
      case hc => exact World.news_of_block (cs := #[.slice bA b.length bc]) (t := 35) (fr := (0, 0)) (heap_alloc_new w4 _)
      case h1c => intro y hy; simp at hy; subst hy; rfl
      case hfull => omega
      case b1 => unfold maxLen; omega
      case b2 => omega
      intro v6 w6 hown6 hgrow6
      obtain ⟨g6, cap6, rfl, hg6, hl6⟩ := hown6.form (by omega)
      have hg6' : w4.heap.size < g6 := by first | omega | (simp at hg6; omega)
      have hB6 : Below w4.heap.size w4 w6 := ((Below.refl _ _).alloc (Nat.le_refl _) _).grown hgrow6 (by simp) (fun k e => by cases e)
      have KL6 := Lib.hid ((hB6.block w.heap.size (by omega)).trans KL4.out)
      have KR6 := Lib.hid ((hB6.block (w.heap.size + 1) (by omega)).trans KR4.out)
      have hsz6 := hB6.size
      have HF6 := Lib.hid (HF4.out.trans (hB6.mono HF4.out.size))
      have HO6 := Lib.hid hown6
      have HV6 := Lib.hid (HV4.out.below hB6)
      clear hown6 hgrow6 hB6 c0 c1 c2 f0 f1 f2 r0 r1 r2 q0 q1 q2
      obtain ⟨⟨c0, c1, c2⟩, ⟨f0, f1, f2⟩⟩ := blk3 (Below.refl _ _) KL6.out (Nat.lt_succ_self _)
      obtain ⟨⟨r0, r1, r2⟩, ⟨q0, q1, q2⟩⟩ := blk3 (Below.refl _ _) KR6.out (Nat.lt_succ_self _)
      go_wp2_with fail
      refine bodyPost_ret (v := .tuple #[.agg #[.int .i64 l.many, .slice (some ⟨g6, 0, none⟩) (l.recs.length + 1) cap6, .int .i64 l.synced], .int .i64 0]) (by simp [results, Try.results15, go_sem, r0, r1, r2]) rfl ?_
      obtain ⟨wf, hwf⟩ : ∃ wf, wf = (((w6.setCell ⟨w.heap.size, 1, none⟩ (.slice (some ⟨g6, 0, none⟩) (l.recs.length + 1) cap6)).setCell ⟨w.heap.size + 1, 0, none⟩ (.int .i64 l.many)).setCell ⟨w.heap.size + 1, 1, none⟩ (.slice (some ⟨g6, 0, none⟩) (l.recs.length + 1) cap6)).setCell ⟨w.heap.size + 1, 2, none⟩ (.int .i64 l.synced) := ⟨_, rfl⟩
      rw [← hwf]
      have hoff : OffR w.heap.size (w.heap.size + 2) w6 wf := by
        rw [hwf]
        exact ((((OffR.refl _ _ _).setCell (by omega) (by omega) _ _).setCell (by omega) (by omega) _ _).setCell (by omega) (by omega) _ _).setCell (by omega) (by omega) _ _
      have hbf : Below w.heap.size w wf := by
        rw [hwf]; refine Below.setCell (Below.setCell (Below.setCell (Below.setCell HF6.out ?_ _) ?_ _) ?_ _) ?_ _ <;> simp
      have hof : wf.ownsRow (w4.heap.size + 1) 35 1 (.slice (some ⟨g6, 0, none⟩) (l.recs.length + 1) cap6) (l.recs.length + 1) (flat 1 l.recs.length (fun i _ => vs i) ++ [.slice bA b.length bc]) := by
        have h0 := HO6.out
        rw [hwf]
        refine ownsRow_setCell_below (ownsRow_setCell_below (ownsRow_setCell_below (ownsRow_setCell_below h0 ?_ _) ?_ _) ?_ _) ?_ _ <;> (dsimp only; omega)
      refine RetLogE.mk (l := ⟨l.many, l.recs ++ [b], l.synced⟩) ⟨_, by rw [], mat_snoc (M := New M w) hof (fun i hi => ?_) ?_ (fun q hq => .inr (by omega))⟩ hbf HS.out
      · have h1 := (HVS.out i hi).mono (M' := fun q => M q ∧ q < w.heap.size) (fun q hq hM => ⟨hM, hq⟩)
        have h2 := h1.keep (w' := wf) fun p hp hl => (hoff p (.inl hp.2)).trans (HF6.out.cell hl)
        exact h2.mono fun q _ hq => .inl hq.1
      · exact (HV6.out.keep (w' := wf) (fun p hp _ => hoff p (.inr (by omega)))).mono fun q _ hq => .inr (by omega)
  · have hok' : okL l = false := by simpa using hok
    rw [chkL_no hok']
    have HS := Lib.hid (show appendL l b = (zeroL, 1) by simp [appendL, hok'])
    clear hok hok'
    go_wp2_with fail
    refine bodyPost_ret (v := .tuple #[.agg #[.int .i64 0, .slice none 0 0, .int .i64 0], .int .i64 1]) (by simp [results, Try.results15, go_sem, r0, r1, r2]) rfl (RetLogE.mk IsLog.zero ?_ HS.out)
    refine Below.setCell (Below.setCell (Below.setCell HF.out ?_ _) ?_ _) ?_ _ <;> simp

set_option maxRecDepth 20000 in
set_option maxHeartbeats 4000000 in
theorem refAppend_any (w : World) (M : Nat → Prop) (l : LogD) (v u : Value) (b : List UInt8) (hf : FitR l.recs) (hb : b.length ≤ 140737488355328) (h : IsLog w M v l) (hu : IsBytes w M u b) :
    Calls Try.prog 16 #[v, u] w (RetLogE (New M w) w (appendL l b)) := by
  have CC := Lib.hid fun (W : World) (hB : Below w.heap.size w W) => refLcheck_any W M l v hf (h.below hB)
  obtain ⟨rv, rfl, A, c, rfl, hc1, hc2, hm⟩ := id h
  have hfl := hf.len
  have CU := Lib.hid fun (W : World) (hB : Below w.heap.size w W) => refUsed_any W M A c l.recs (by omega) hf.lens (hm.keep fun _ _ hp => hB.cell hp)
  obtain ⟨uA, uc, rfl, hu1, hu2, hu3⟩ := id hu
  have HM := Lib.hid hm
  have HU := Lib.hid hu
  have CS := Lib.hid fun (W : World) n hn => refSectors_any W n hn
  obtain ⟨W1, hW1⟩ : ∃ W1, W1 = (w.alloc (.cells #[.int .i64 l.many, .slice A l.recs.length c, .int .i64 l.synced] 29)).alloc (.cells #[.int .i64 0, .slice none 0 0, .int .i64 0] 29) := ⟨_, rfl⟩
  have hB1 : Below w.heap.size w W1 := by rw [hW1]; exact ((Below.refl w.heap.size w).alloc (Nat.le_refl _) _).alloc (by simp) _
  have hz : W1.heap.size = w.heap.size + 2 := by rw [hW1]; simp
  have k0 : W1.heap[w.heap.size]? = some (.cells #[.int .i64 l.many, .slice A l.recs.length c, .int .i64 l.synced] 29 (0, 0)) := by rw [hW1]; exact heap2_0 _ _ _
  have k1 : W1.heap[w.heap.size + 1]? = some (.cells #[.int .i64 0, .slice none 0 0, .int .i64 0] 29 (0, 0)) := by rw [hW1]; exact heap2_1 _ _ _
  have HW := Lib.hid hW1
  have HB := Lib.hid hB1
  have HZ := Lib.hid hz
  have HK0 := Lib.hid k0
  have HK1 := Lib.hid k1
  obtain ⟨x, hx⟩ : ∃ x, x = usedI l.recs := ⟨_, rfl⟩
  rw [← hx] at CU
  have HX := Lib.hid hx
  clear hB1 h hz k0 k1 hu hu3 hm hf hx
  go_enter Try.func16, Try.ntmps16
  go_wp2_with fail
  rw [← HW.out]
  clear hW1
  refine (CC.out W1 HB.out).mono ?_
  rintro e w1 ⟨rfl, hb1⟩
  have KL := Lib.hid ((hb1.block w.heap.size (by rw [HZ.out]; omega)).trans HK0.out)
  have KR := Lib.hid ((hb1.block (w.heap.size + 1) (by rw [HZ.out]; omega)).trans HK1.out)
  obtain ⟨⟨c0, c1, c2⟩, ⟨f0, f1, f2⟩⟩ := blk3 (Below.refl _ _) KL.out (Nat.lt_succ_self _)
  obtain ⟨⟨r0, r1, r2⟩, ⟨q0, q1, q2⟩⟩ := blk3 (Below.refl _ _) KR.out (Nat.lt_succ_self _)
  have hsz := hb1.size
  rw [HZ.out] at hsz
  have HF := Lib.hid (HB.out.trans (hb1.mono HB.out.size))
  clear hb1
  by_cases hok : okL l = true
  · rw [chkL_ok hok]
    obtain ⟨y, hy⟩ : ∃ y, y = wrap64 (l.many - x) := ⟨_, rfl⟩
    by_cases hlt : y < (secs b.length : Int)
    · have HS := Lib.hid (show appendL l b = (zeroL, 2) by unfold appendL; rw [hok, ← HX.out, ← hy]; simp [hlt])
      have hyw : wrap64 (l.many - x) = y := hy.symm
      have hlt' : decide (y < ((secs b.length : Nat) : Int)) = true := decide_eq_true hlt
      clear hok hy
      go_wp2_with fail
      go_quiet ((first | (go_at_call 39; exact Calls.quiet_of_same ((CS.out _ _ hb).mono fun e w' h => ⟨h.1, h.2.symm⟩)) | (go_at_call 40; exact Calls.quiet_of_same (CU.out _ (below_drewN HF.out _)))))
      go_wp2_with fail
      refine bodyPost_ret (v := .tuple #[.agg #[.int .i64 0, .slice none 0 0, .int .i64 0], .int .i64 2]) (by simp [results, Try.results16, go_sem, r0, r1, r2]) rfl (RetLogE.mk IsLog.zero ?_ HS.out)
      refine Below.setCell (Below.setCell (Below.setCell (below_drewN HF.out _) ?_ _) ?_ _) ?_ _ <;> simp
    · have HS := Lib.hid (show appendL l b = (⟨l.many, l.recs ++ [b], l.synced⟩, 0) by unfold appendL; rw [hok, ← HX.out, ← hy]; simp [hlt])
      have hyw : wrap64 (l.many - x) = y := hy.symm
      have hlt' : decide (y < ((secs b.length : Nat) : Int)) = false := decide_eq_false hlt
      clear hok hy
      go_wp2_with fail
      go_quiet ((first | (go_at_call 39; exact Calls.quiet_of_same ((CS.out _ _ hb).mono fun e w' h => ⟨h.1, h.2.symm⟩)) | (go_at_call 40; exact Calls.quiet_of_same (CU.out _ (below_drewN HF.out _)))))
      go_upto_region 6 with fail
      refine nameC fun W2 hW2 => ?_
      have HF2 := Lib.hid (show Below w.heap.size w W2 by rw [hW2.out]; exact below_drewN HF.out _)
      have KL2 := Lib.hid (show W2.heap[w.heap.size]? = some (.cells #[.int .i64 l.many, .slice A l.recs.length c, .int .i64 l.synced] 29 (0, 0)) by rw [hW2.out]; exact KL.out)
      have KR2 := Lib.hid (show W2.heap[w.heap.size + 1]? = some (.cells #[.int .i64 0, .slice none 0 0, .int .i64 0] 29 (0, 0)) by rw [hW2.out]; exact KR.out)
      have hsz2 : w.heap.size + 2 ≤ W2.heap.size := by rw [hW2.out]; exact hsz
      clear hW2 c0 c1 c2 f0 f1 f2 r0 r1 r2 q0 q1 q2 HF KL KR hsz hyw hlt' hlt
      obtain ⟨⟨c0, c1, c2⟩, ⟨f0, f1, f2⟩⟩ := blk3 (Below.refl _ _) KL2.out (Nat.lt_succ_self _)
      obtain ⟨⟨r0, r1, r2⟩, ⟨q0, q1, q2⟩⟩ := blk3 (Below.refl _ _) KR2.out (Nat.lt_succ_self _)
      have hsz4 := hsz2
      have HF4 := HF2
      have KL4 := KL2
      have KR4 := KR2
      obtain ⟨i0, hi, hz0, hz1, hz2⟩ := info_parts Try.infoSl
      obtain ⟨vs, hvs1, hvs2⟩ := HM.out
      have HVS := Lib.hid hvs2
      have HSRC := Lib.hid (cells_flat_any hvs1 (by omega))
      clear hvs1 hvs2
      have HBX := Lib.hid (show Below W2.heap.size W2 (W2.alloc (.cells #[] 35)) from (Below.refl _ _).alloc (Nat.le_refl _) _)
      have hlt1 : w.heap.size < W2.heap.size := by omega
      have hlt2 : w.heap.size + 1 < W2.heap.size := by omega
      go_wp2_with (first
        | (at_builtin; refine wpList_append_cells _ rfl (.tmp 24) (.tmp 26) 22 rfl W2.heap.size 35 i0 (.slice none 0 0) 1 24 Try.underlying22 hi hz0 hz1 hz2 rfl (by decide) (.slice (some ⟨W2.heap.size, 0, none⟩) 0 0) 0 [] rfl (own_empty (heap_alloc_new W2 _) (Nat.le_refl _)) A l.recs.length c (flat 1 l.recs.length (fun i _ => vs i)) rfl (flat_length _ _ _) (HSRC.out _ (HF2.out.alloc HF2.out.size _)) (one_mat HVS.out) (by unfold maxLen; omega) (by omega) (by simp) ?_; intro v5 w5 hown5 hgrow5 _; (have hB5 : Below W2.heap.size W2 w5 := HBX.out.grown hgrow5 (by simp) (fun k e => by simp [Value.ownBlock] at e; omega)); have HB5 := Lib.hid hB5; have hsz5 := hB5.size; rw [List.nil_append, Nat.zero_add] at hown5; obtain ⟨A5, c5, hv5, -, -, -⟩ := own_cells1 hown5; subst hv5; have HO5 := Lib.hid hown5; clear hown5 hgrow5; have c0 := (hB5.cell (p := ⟨w.heap.size, 0, none⟩) (by show w.heap.size < _; omega)).trans c0; clear hB5)
        | (at_builtin; refine wpList_append_cells _ rfl (.tmp 27) (.tmp 29) 22 rfl W2.heap.size 35 i0 (.slice none 0 0) 1 24 Try.underlying22 hi hz0 hz1 hz2 rfl (by decide) (.slice A5 l.recs.length c5) l.recs.length (flat 1 l.recs.length (fun i _ => vs i)) rfl (own_grow HO5.out ((Below.refl _ _).alloc (Nat.le_refl _) _) (Nat.le_refl _)) (some ⟨w5.heap.size, 0, none⟩) 1 1 [.slice uA b.length uc] rfl rfl (fun _ => ⟨_, rfl, World.news_of_block (cs := #[.slice uA b.length uc]) (t := 35) (fr := (0, 0)) (heap_alloc_new w5 _)⟩) (by intro y hy; simp at hy; subst hy; rfl) (by unfold maxLen; omega) (by omega) (by simp; omega) ?_; intro v6 w6 hown6 hgrow6 _; (have hB6 : Below W2.heap.size W2 w6 := (HB5.out.alloc hsz5 _).grown hgrow6 (by simp; omega) (fun k e => own_ge HO5.out e)); have HB6 := Lib.hid hB6; have HO6 := Lib.hid hown6; (have KL6 := Lib.hid ((hB6.block w.heap.size (by omega)).trans KL2.out)); (have KR6 := Lib.hid ((hB6.block (w.heap.size + 1) (by omega)).trans KR2.out)); obtain ⟨g6, cap6, hv6, hg6, hl6⟩ := hown6.form (by omega); subst hv6; clear hown6 hgrow6 hB6 c0 c1 c2 f0 f1 f2 r0 r1 r2 q0 q1 q2; obtain ⟨⟨c0, c1, c2⟩, ⟨f0, f1, f2⟩⟩ := blk3 (Below.refl _ _) KL6.out (Nat.lt_succ_self _); obtain ⟨⟨r0, r1, r2⟩, ⟨q0, q1, q2⟩⟩ := blk3 (Below.refl _ _) KR6.out (Nat.lt_succ_self _)))
      have hg6' : w.heap.size + 1 < g6 := by omega
      have hszw6 := HB6.out.size
      have HF6 := Lib.hid (HF2.out.trans (HB6.out.mono HF2.out.size))
      refine bodyPost_ret (v := .tuple #[.agg #[.int .i64 l.many, .slice (some ⟨g6, 0, none⟩) (l.recs.length + 1) cap6, .int .i64 l.synced], .int .i64 0]) (by simp [results, Try.results16, go_sem, r0, r1, r2]) rfl ?_
      obtain ⟨wf, hwf⟩ : ∃ wf, wf = (((w6.setCell ⟨w.heap.size, 1, none⟩ (.slice (some ⟨g6, 0, none⟩) (l.recs.length + 1) cap6)).setCell ⟨w.heap.size + 1, 0, none⟩ (.int .i64 l.many)).setCell ⟨w.heap.size + 1, 1, none⟩ (.slice (some ⟨g6, 0, none⟩) (l.recs.length + 1) cap6)).setCell ⟨w.heap.size + 1, 2, none⟩ (.int .i64 l.synced) := ⟨_, rfl⟩
      rw [← hwf]
      have hoff : OffR w.heap.size (w.heap.size + 2) w6 wf := by
        rw [hwf]
        exact ((((OffR.refl _ _ _).setCell (by omega) (by omega) _ _).setCell (by omega) (by omega) _ _).setCell (by omega) (by omega) _ _).setCell (by omega) (by omega) _ _
      have hbf : Below w.heap.size w wf := by
        rw [hwf]; refine Below.setCell (Below.setCell (Below.setCell (Below.setCell HF6.out ?_ _) ?_ _) ?_ _) ?_ _ <;> simp
      have hof : wf.ownsRow W2.heap.size 35 1 (.slice (some ⟨g6, 0, none⟩) (l.recs.length + 1) cap6) (l.recs.length + 1) (flat 1 l.recs.length (fun i _ => vs i) ++ [.slice uA b.length uc]) := by
        have h0 := HO6.out
        rw [hwf]
        refine ownsRow_setCell_below (ownsRow_setCell_below (ownsRow_setCell_below (ownsRow_setCell_below h0 ?_ _) ?_ _) ?_ _) ?_ _ <;> (dsimp only; omega)
      have tr : ∀ {y : Value} {bs : List UInt8}, IsBytes w M y bs → IsBytes wf (New M w) y bs := fun {y bs} h => by
        have h1 := h.mono (M' := fun q => M q ∧ q < w.heap.size) (fun q hq hM => ⟨hM, hq⟩)
        have h2 := h1.keep (w' := wf) fun p hp hl => (hoff p (.inl hp.2)).trans (HF6.out.cell hl)
        exact h2.mono fun q _ hq => .inl hq.1
      exact RetLogE.mk (l := ⟨l.many, l.recs ++ [b], l.synced⟩) ⟨_, by rw [], mat_snoc (M := New M w) hof (fun i hi => tr (HVS.out i hi)) (tr HU.out) (fun q hq => .inr (by omega))⟩ hbf HS.out
  · have hok' : okL l = false := by simpa using hok
    rw [chkL_no hok']
    have HS := Lib.hid (show appendL l b = (zeroL, 1) by simp [appendL, hok'])
    clear hok hok'
    go_wp2_with fail
    refine bodyPost_ret (v := .tuple #[.agg #[.int .i64 0, .slice none 0 0, .int .i64 0], .int .i64 1]) (by simp [results, Try.results16, go_sem, r0, r1, r2]) rfl (RetLogE.mk IsLog.zero ?_ HS.out)
    refine Below.setCell (Below.setCell (Below.setCell HF.out ?_ _) ?_ _) ?_ _ <;> simp
end Go.Proofs.Ytocjhepiooljpaa
