import Derived.Test.YthlnfjbedehjdaaC3
/- The sets of rivals as an iterator. -/
namespace Go.Proofs.Ythlnfjbedehjdaa
open Go.RowKit Go.Deep Go.Shelf

attribute [local go_sem] Oper.semAt_some
set_option maxRecDepth 20000 in
set_option maxHeartbeats 4000000 in
theorem sets1_seq (nf bR bM many n cb : Nat) (X : Nat → Prop) (q : RaceD) (cA : Option Addr) (cc : Nat) (w : World) (hR5 : w.cell? ⟨bR, 5, none⟩ = some (.int .i64 (cb : Int))) (hR2 : w.cell? ⟨bR, 2, none⟩ = some (.slice cA n cc))
    (hM : w.cell? ⟨bM, 0, none⟩ = some (.int .i64 (many : Int))) (hXM : ¬ X bM) (hX : ∀ b, X b → b < w.heap.size) (hm24 : many ≤ 24) (hn24 : n ≤ 24) (hn : n = q.clubs.length) (hc : q.club = (cb : Int)) :
    SeqRS nf Try.prog 105 #[.pointer (some ⟨bR, 0, none⟩), .pointer (some ⟨bM, 0, none⟩)] encS (RSy X (comb (rivR q) many)) (KC X) (fun xs => xs.map Sy.set = comb (rivR q) many) w := by
  intro l J Jx W hW hJb hXb hY h0
  have bRl := lt_of_cell hR5
  have bMl := lt_of_cell hM
  have HY := Lib.hid hY
  have HJB := Lib.hid hJb
  have HR5 := Lib.hid hR5
  have HR2 := Lib.hid hR2
  have HM := Lib.hid hM
  have HW := Lib.hid hW
  have H0 := Lib.hid h0
  have HRV := Lib.hid (show rivR q = rivTo q n by rw [hn]; rfl)
  have hy := fun k => @rivTo_yes q k
  have hno := fun k => @rivTo_no q k
  rw [hc] at hy hno
  have HYY := Lib.hid hy
  have HNN := Lib.hid hno
  clear hY hJb hXb hR5 hR2 hM hW h0 hn hc hy hno
  show Calls Try.prog 105 #[.func (.yield l) #[] #[], .pointer (some ⟨bR, 0, none⟩), .pointer (some ⟨bM, 0, none⟩)] W _
  go_enter Try.func105, Try.ntmps105
  go_upto_region 2 with fail
  refine nameC fun W1 hW1 => ?_
  have hb1 : Below W.heap.size W W1 := by rw [hW1.out]; exact (Below.refl _ _).alloc (Nat.le_refl _) _
  have k3 : W1.heap[W.heap.size]? = some (.cells #[.func (.yield l) #[] #[]] 75 (0, 0)) := by rw [hW1.out]; exact heap_alloc_new _ _
  obtain ⟨b3, hb3⟩ : ∃ b3, b3 = W.heap.size := ⟨_, rfl⟩
  rw [← hb3] at k3 ⊢
  have HB1 := Lib.hid hb1
  have K3 := Lib.hid k3
  have HE3 := Lib.hid hb3
  have HWB := Lib.hid (show Below w.heap.size w W1 from HW.out.trans (hb1.mono HW.out.size))
  have r2 := (HWB.out.cell (p := ⟨bR, 2, none⟩) bRl).trans HR2.out
  clear hW1 hb1 k3 hb3
  go_wp2_with fail
  clear r2
  go_loopw [4, 11] (fun s4 s11 wr => ∃ k : Nat, k ≤ n ∧ s11 = .int .i64 (k : Int) ∧ Hid (wr.ownsRow W1.heap.size 3 1 s4 (rivTo q k).length ((rivTo q k).map i64v)) ∧ Hid (Below W1.heap.size W1 wr)) (fun _ s11 _ => n - (intOf s11).toNat)
  case atStart => exact ⟨0, Nat.zero_le _, rfl, Lib.hid (own_nil _ _ _ _), Lib.hid (Below.refl _ _)⟩
  case round =>
    obtain ⟨k, hk, rfl, HO, HB⟩ := hrel
    by_cases hlt : k < n
    · have hlen := rivTo_le q k
      have HYk := Lib.hid (HYY.out k)
      have HNk := Lib.hid (HNN.out k)
      have r5 := ((HWB.out.trans (HB.out.mono HWB.out.size)).cell (p := ⟨bR, 5, none⟩) bRl).trans HR5.out
      have hk0 : (0 : Int) ≤ (k : Int) := by omega
      have hk1 : (k : Int) < (n : Int) := by omega
      by_cases hkc : (k : Int) = (cb : Int)
      · have d0 : ((k : Int) != (cb : Int)) = false := by rw [bne_eq_false_iff_eq]; exact hkc
        have HN := Lib.hid (HNk.out hkc)
        clear hkc
        go_wp2_with fail
        go_roundw
        case rel => exact ⟨k + 1, by omega, by go_num, Lib.hid (by rw [HN.out]; exact HO.out), HB⟩
        case measure => simp [intOf]; omega
      · have d0 : ((k : Int) != (cb : Int)) = true := by rw [bne_iff_ne]; exact hkc
        have HN := Lib.hid (HYk.out hkc)
        clear hkc
        go_wp2_with (at_builtin; refine wpList_int1 rfl (.tmp 19) (.tmp 21) rfl W1.heap.size (rivTo q k) (k : Int) rfl (HO.out.alloc _) rfl (heap_alloc_new _ _) (by omega) (by have := HB.out.size; simp; omega) ?_; intro A7 d7 w7 H7; have HB7 := Lib.hid ((HB.out.alloc HB.out.size _).trans H7.out.2.1); have HO7 := Lib.hid H7.out.1; clear H7 HB HO r5; (repeat (first | simp only [Act.put] | simp only [List.setIfInBounds_toArray] | simp only [List.set_cons_zero] | simp only [List.set_cons_succ])))
        go_roundw
        case rel => exact ⟨k + 1, by omega, by go_num, Lib.hid (by rw [HN.out]; exact HO7.out), HB7⟩
        case measure => simp [intOf]; omega
    · have hnl : ¬ (k : Int) < (n : Int) := by omega
      obtain rfl : k = n := by omega
      obtain ⟨A9, d9, rfl⟩ := own_sl HO.out
      have hlen := rivTo_le q k
      have HRI := Lib.hid (IsInts.ofOwn HO.out)
      rw [← HRV.out] at HO HRI hlen ⊢
      clear HYY HNN
      go_wp2_with fail
      refine nameW fun W5 hW5 => ?_
      have hb5 : Below wr.heap.size wr W5 := by rw [hW5.out]; exact (Below.refl _ _).alloc (Nat.le_refl _) _
      have k4 : W5.heap[wr.heap.size]? = some (.cells #[.func (.func 106) #[] #[.pointer (some ⟨bM, 0, none⟩), .pointer (some ⟨b3, 0, none⟩), .pointer (some ⟨wr.heap.size, 0, none⟩)]] 78 (0, 0)) := by
        rw [hW5.out]; exact heap_alloc_new _ _
      have HB5 := Lib.hid (HB1.out.trans ((HB.out.trans (hb5.mono HB.out.size)).mono HB1.out.size))
      have hb5' := HB.out.trans (hb5.mono HB.out.size)
      have hwB := HW.out.size
      have h1s := HB1.out.size
      have h2s := HB.out.size
      have hb3w := HE3.out
      have h3s := lt_heap K3.out
      have HQ := walk_any nf l bM b3 wr.heap.size many w.heap.size X (comb (rivR q) many) J Jx HJB.out HY.out hX hXM (fun h => by have := hX _ h; omega) (fun h => by have := hX _ h; omega) hm24 many (rivR q) [] (.slice A9 (rivR q).length d9) (.slice none 0 0) [] [] W5 (by simp) (by simp) (HJB.out _ _ _ H0.out HB5.out) (by have := HB5.out.size; omega)
        ⟨((HWB.out.trans (hb5'.mono HWB.out.size)).cell (p := ⟨bM, 0, none⟩) bMl).trans HM.out, cell_of ((hb5'.block _ h3s).trans K3.out) rfl, cell_of k4 rfl⟩
        (IsSl.mono (IsSl.below HRI.out hb5) (fun b _ hb hx => by have := hX _ hx; omega) (by omega)) IsSl.nil (by omega)
      refine HQ.mono ?_
      rintro e W6 ⟨-, (⟨rfl, xs, hxs, hJ⟩ | ⟨rfl, hx⟩)⟩
      · go_wp2_with fail
        try rw [Exit.noGoto_ret]
        refine bodyPost_end (results_none rfl _ _ _) rfl ?_
        exact ⟨⟨_, rfl⟩, .inl ⟨xs, by simpa using hxs, by simpa using hJ⟩⟩
      · go_wp2_with fail
        try rw [Exit.noGoto_ret]
        refine bodyPost_end (results_none rfl _ _ _) rfl ?_
        exact ⟨⟨_, rfl⟩, .inr hx⟩
theorem sets_any (x0 x1 x2 x3 x4 x5 x6 : Value) (m : Int) (w : World) : Calls Try.prog 95 #[.agg #[x0, x1, x2, x3, x4, x5, x6], .int .i64 m] w fun e w' => e = .returned (.func (.func 105) #[] #[.pointer (some ⟨w.heap.size, 0, none⟩), .pointer (some ⟨w.heap.size + 1, 0, none⟩)]) ∧ w' = (w.alloc (.cells #[x0, x1, x2, x3, x4, x5, x6] 55 (0, 0))).alloc (.cells #[.int .i64 m] 3 (0, 0)) := by
  go_enter Try.func95, Try.ntmps95
  go_wp2_with fail
  go_ret
  exact ⟨rfl, rfl⟩
set_option maxRecDepth 20000 in
set_option maxHeartbeats 4000000 in
theorem few_any (w : World) (M : Nat → Prop) (v : Value) (q : RaceD) (h : IsRace w M v q) (hs : SizeR q) (many : Nat) (hm : many ≤ 24) (hL : (comb (rivR q) many).length ≤ 2048) : Calls Try.prog 82 #[v, .int .i64 (many : Int)] w fun e w' => e = .returned (.bool true) ∧ Below w.heap.size w w' := by
  obtain ⟨cb, hcb⟩ : ∃ cb : Nat, q.club = (cb : Int) := ⟨q.club.toNat, by have := hs.c0; omega⟩
  obtain ⟨cA, cc, pA, pc, oA, oc, rfl, -⟩ := h.parts
  have hn24 := hs.n24
  rw [hcb]
  clear h hs
  obtain ⟨n, hn⟩ : ∃ n, n = q.clubs.length := ⟨_, rfl⟩
  rw [← hn] at hn24
  rw [← hn]
  have HN := Lib.hid hn
  have HCB := Lib.hid hcb
  have HL := Lib.hid hL
  clear hn hcb hL
  refine (callsIn_wide (n := 6)).1 ?_
  refine callsIn_of_wp_marks Try.func82 rfl trivial ?_ rfl
  simp only [Try.ntmps82, List.size_toArray, List.length_cons, List.length_nil, Nat.reduceAdd, Nat.reduceSub, Array.replicate_succ, Array.replicate_zero, List.push_toArray, List.append_toArray, List.nil_append, List.cons_append]
  gi_wp2_with fail
  refine ⟨trivial, callsIn_wide.2 ?_⟩
  refine nameW fun W1 hW1 => ?_
  have hb1 : Below w.heap.size w W1 := by rw [hW1.out]; exact (((Below.refl _ _).alloc (Nat.le_refl _) _).alloc (by simp) _).alloc (by simp; omega) _
  have kr : W1.heap[w.heap.size + 1]? = some (.cells #[.bool false] 4 (0, 0)) := by rw [hW1.out]; simp only [heap_alloc_if, World.size_alloc]; rw [if_neg (by omega), if_pos trivial]
  have kn : W1.heap[w.heap.size + 1 + 1]? = some (.cells #[.int .i64 0] 3 (0, 0)) := by rw [hW1.out]; simp only [heap_alloc_if, World.size_alloc]; rw [if_pos trivial]
  obtain ⟨Bn, hBn⟩ : ∃ Bn, Bn = w.heap.size + 1 + 1 := ⟨_, rfl⟩
  rw [← hBn] at kn ⊢
  obtain ⟨Br, hBr⟩ : ∃ Br, Br = w.heap.size + 1 := ⟨_, rfl⟩
  rw [← hBr] at kr ⊢
  have hw0 : w.heap.size < Br := by omega
  have hbrn : Br < Bn := by omega
  have HB1 := Lib.hid hb1
  have KR := Lib.hid kr
  have KN := Lib.hid kn
  have hn1 : Bn < W1.heap.size := lt_heap kn
  clear hW1 hb1 kr kn hBr hBn
  refine (sets_any _ _ _ _ _ _ _ _ _).mono ?_
  rintro e W0 ⟨rfl, hW0⟩
  have hb0 : Below W1.heap.size W1 W0 := by rw [hW0]; exact ((Below.refl _ _).alloc (Nat.le_refl _) _).alloc (by simp) _
  have k0 : W0.heap[W1.heap.size]? = some (.cells #[.int .i64 q.win, .int .i64 q.draw, .slice cA n cc, .slice pA q.points.length pc, .slice oA q.opn.length oc, .int .i64 (cb : Int), .int .i64 q.place] 55 (0, 0)) := by rw [hW0, heap_alloc_if, if_neg (by simp)]; exact heap_alloc_new _ _
  have k1 : W0.heap[W1.heap.size + 1]? = some (.cells #[.int .i64 (many : Int)] 3 (0, 0)) := by rw [hW0, heap_alloc_if, if_pos (by simp)]
  have HB0 := Lib.hid (HB1.out.trans (hb0.mono HB1.out.size))
  have KR0 := Lib.hid ((hb0.block _ (lt_heap KR.out)).trans KR.out)
  have KN0 := Lib.hid ((hb0.block _ (lt_heap KN.out)).trans KN.out)
  have K0 := Lib.hid k0
  have K1 := Lib.hid k1
  have hz0 := lt_heap k1
  clear hW0 hb0 k0 k1 KR KN HB1
  gi_wp2_with fail
  refine wpIn_rangeRS (gf := 105) (lb := #[.pointer (some ⟨W1.heap.size, 0, none⟩), .pointer (some ⟨W1.heap.size + 1, 0, none⟩)]) rfl (enters_of Try.func105 (by kernel_rfl) rfl) (encs := encS) (fun _ => rfl)
    (fun pre W => W.heap[Bn]? = some (.cells #[.int .i64 (pre.length : Int)] 3 (0, 0)) ∧ W.heap[Br]? = some (.cells #[.bool false] 4 (0, 0)) ∧ Below w.heap.size w W) (fun _ _ => False)
    (RSy (fun b => b = Br ∨ b = Bn) (comb (rivR q) many)) (Kp := KC (fun b => b = Br ∨ b = Bn)) (S := fun xs => xs.map Sy.set = comb (rivR q) many) ?hIq ?hXq (RSy.quiet _ _ _) ?hIb ?hXb ?h0 ?hseq KC.trans (fun W l o o' _ h1 h2 _ => kc_b W l o o' h1 h2) ?a1 ?assign ?body ?done ?stop
  case assign =>
    intro l x W K hK
    simp only [encS]
    gi_wp2
    exact hK
  case hIq =>
    rintro pre W l o o' hl ⟨h1, h2, h3⟩ ho hc
    refine ⟨?_, ?_, h3.grown (grownBy_putObj' W l o') (by have := h3.size; omega) (fun k e => by cases e; have := HB0.out.size; omega)⟩
    · rw [World.putObj_heap_other (fun e => by subst e; rw [h1] at ho; cases ho; cases hc)]; exact h1
    · rw [World.putObj_heap_other (fun e => by subst e; rw [h2] at ho; cases ho; cases hc)]; exact h2
  case hXq => rintro c W l o o' _ h; cases h
  case hIb =>
    rintro pre A B ⟨h1, h2, h3⟩ hB
    exact ⟨(hB.block _ (lt_heap h1)).trans h1, (hB.block _ (lt_heap h2)).trans h2, h3.trans (hB.mono h3.size)⟩
  case hXb => rintro c A B h; cases h
  case h0 => exact ⟨KN0.out, KR0.out, HB0.out⟩
  case hseq => exact sets1_seq _ W1.heap.size (W1.heap.size + 1) many n cb _ q cA cc W0 (cell_of K0.out rfl) (cell_of K0.out rfl) (cell_of K1.out rfl) (fun h => by rcases h with h | h <;> omega) (fun b h => by rcases h with h | h <;> omega) hm hn24 HN.out HCB.out
  case body =>
    rintro l pre x W ⟨h1, h2, h3⟩ ⟨⟨rest, hr⟩, -⟩
    have hlen : pre.length < 2048 := by
      have h5 := congrArg List.length hr
      rw [List.length_append, List.length_map, List.length_cons] at h5
      have := HL.out
      omega
    have b0 := cell_of (j := 0) h1 rfl
    have f0 : W.frozen? ⟨Bn, 0, none⟩ = false := by simp [World.frozen?, h1]
    have H1 := Lib.hid h1
    have H2 := Lib.hid h2
    have H3 := Lib.hid h3
    clear h1 h2 h3 hr
    gi_wp2_with fail
    refine ⟨KeepsOthers.setCell _ _ _, KC.setCell (KC.refl _) (Or.inr rfl) _ _, ?_, ?_, H3.out.setCell (by show w.heap.size ≤ Bn; omega) _⟩
    · rw [Blk_set (j := 0) H1.out]; simp
    · rw [heap_set_if, if_neg (by omega)]; exact H2.out
  case done =>
    rintro D xs W hD hS ⟨h1, h2, h3⟩ hKD
    have f1 : W.frozen? ⟨Br, 0, none⟩ = false := by simp [World.frozen?, h2]
    have c1 := cell_of (j := 0) h2 rfl
    have H2 := Lib.hid h2
    have H3 := Lib.hid h3
    have HKD := Lib.hid hKD
    clear h1 h2 h3 hKD
    gi_wp2_with fail
    have hk4 := (KeepsOthers.setCell W ⟨Br, 0, none⟩ (.bool true)).same D _ HKD.out rfl
    have hb4 := Blk_set (j := 0) H2.out (.bool true)
    have hB4 := H3.out.setCell (p := ⟨Br, 0, none⟩) (by show w.heap.size ≤ Br; omega) (.bool true)
    generalize W.setCell _ _ = W4 at hk4 hb4 hB4 ⊢
    have hB5 := hB4.grown (grownBy_putObj' W4 D (.deferred none)) hB4.size (fun k e => by cases e; have := HB0.out.size; omega)
    have hb5 : (W4.putObj D (.deferred none)).heap[Br]? = some (.cells #[.bool true] 4 (0, 0)) := by
      rw [World.putObj_heap_other (fun e => by subst e; rw [hb4] at hk4; cases hk4)]; exact hb4
    have y0 := cell_of (j := 0) hb5 rfl
    refine ⟨by simp, .inl ⟨_, _, rfl, run_takeDeferred hk4, ?_⟩⟩
    exact ⟨.bool true, by simp [results, Try.results82, go_sem, y0], rfl, hB5⟩
  case stop => rintro D c W _ h; cases h
end Go.Proofs.Ythlnfjbedehjdaa
/- Lists of cuts in memory; byFlow, bySearch. -/
namespace Go.Proofs.Ythlnfjbedehjdaa
open Go.RowKit Go.Deep Go.Shelf

def cutN (cs : List CutD) (i : Nat) : CutD := cs.getD i ⟨[], [], []⟩
/-- a slice of cuts: its cells (three to a cut), and what they stand for -/
structure CutsAt (w : World) (M : Nat → Prop) (b off : Nat) (cs : List CutD) : Prop where
  blk : M b
  at_ : ∀ i, i < cs.length → ∃ fA fc uA uc gA gc, w.cell? ⟨b, off + i * 3, none⟩ = some (.slice fA (cutN cs i).free.length fc) ∧ w.cell? ⟨b, off + i * 3 + 1, none⟩ = some (.slice uA (cutN cs i).clubs.length uc) ∧ w.cell? ⟨b, off + i * 3 + 2, none⟩ = some (.slice gA (cutN cs i).games.length gc) ∧
    IsInts w M (.slice fA (cutN cs i).free.length fc) (cutN cs i).free ∧ IsInts w M (.slice uA (cutN cs i).clubs.length uc) (cutN cs i).clubs ∧ IsInts w M (.slice gA (cutN cs i).games.length gc) (cutN cs i).games
def IsCuts (w : World) (M : Nat → Prop) (v : Value) (cs : List CutD) : Prop := ∃ A c, v = .slice A cs.length c ∧ cs.length ≤ c ∧ c ≤ 9223372036854775807 ∧ (0 < cs.length → ∃ b off, A = some ⟨b, off, none⟩ ∧ CutsAt w M b off cs)
section
variable {w w' : World} {M M' : Nat → Prop} {v : Value} {cs : List CutD} {X : Nat → Prop}
theorem IsInts.keepC {xs : List Int} (h : IsInts w M v xs) (hk : ∀ p u, M p.block → w.cell? p = some u → w'.cell? p = some u) : IsInts w' M v xs := by
  obtain ⟨A, c, e, h1, h2, h3⟩ := h
  refine ⟨A, c, e, h1, h2, fun hn => ?_⟩
  obtain ⟨b, off, e, hb, hc⟩ := h3 hn
  exact ⟨b, off, e, hb, fun i j hi hj => hk _ _ hb (hc i j hi hj)⟩
theorem CutsAt.keepC {b off : Nat} (h : CutsAt w M b off cs) (hk : ∀ p u, M p.block → w.cell? p = some u → w'.cell? p = some u) : CutsAt w' M b off cs :=
  ⟨h.blk, fun i hi => by
    obtain ⟨fA, fc, uA, uc, gA, gc, h1, h2, h3, h4, h5, h6⟩ := h.at_ i hi
    exact ⟨fA, fc, uA, uc, gA, gc, hk _ _ h.blk h1, hk _ _ h.blk h2, hk _ _ h.blk h3, h4.keepC hk, h5.keepC hk, h6.keepC hk⟩⟩
theorem IsCuts.keepC (h : IsCuts w M v cs) (hk : ∀ p u, M p.block → w.cell? p = some u → w'.cell? p = some u) : IsCuts w' M v cs := by
  obtain ⟨A, c, e, h1, h2, h3⟩ := h
  refine ⟨A, c, e, h1, h2, fun hn => ?_⟩
  obtain ⟨b, off, e, h4⟩ := h3 hn
  exact ⟨b, off, e, h4.keepC hk⟩
theorem IsCuts.below (h : IsCuts w M v cs) (hb : Below w.heap.size w w') : IsCuts w' M v cs := h.keepC fun p _ _ hp => (hb.cell (p := p) (lt_of_cell hp)).trans hp
theorem IsCuts.kc (h : IsCuts w (fun b => ¬ X b) v cs) (k : KC X w w') : IsCuts w' (fun b => ¬ X b) v cs := h.keepC fun _ _ hM hp => k.cell hp hM
theorem IsInts.monoC {xs : List Int} (h : IsInts w M v xs) (hM : ∀ b, b < w.heap.size → M b → M' b) : IsInts w M' v xs := IsSl.mono h hM (by omega)
theorem IsCuts.mono (h : IsCuts w M v cs) (hM : ∀ b, b < w.heap.size → M b → M' b) : IsCuts w M' v cs := by
  obtain ⟨A, c, e, h1, h2, h3⟩ := h
  refine ⟨A, c, e, h1, h2, fun hn => ?_⟩
  obtain ⟨b, off, e, h4⟩ := h3 hn
  refine ⟨b, off, e, hM b ?_ h4.blk, fun i hi => ?_⟩
  · obtain ⟨_, _, _, _, _, _, h1, -⟩ := h4.at_ 0 hn
    exact lt_of_cell h1
  · obtain ⟨fA, fc, uA, uc, gA, gc, h1, h2, h3, h4, h5, h6⟩ := h4.at_ i hi
    exact ⟨fA, fc, uA, uc, gA, gc, h1, h2, h3, h4.monoC hM, h5.monoC hM, h6.monoC hM⟩
theorem IsCuts.len (h : IsCuts w M v cs) : ∃ A c, v = .slice A cs.length c ∧ cs.length ≤ c ∧ c ≤ 9223372036854775807 := by
  obtain ⟨A, c, e, h1, h2, -⟩ := h; exact ⟨A, c, e, h1, h2⟩
theorem IsCuts.nil : IsCuts w M (.slice none 0 0) [] := ⟨none, 0, rfl, by simp, by simp, fun h => absurd h (by simp)⟩
theorem cutN_drop (cs : List CutD) (k i : Nat) : cutN (cs.drop k) i = cutN cs (k + i) := by
  unfold cutN; rw [List.getD_eq_getElem?_getD, List.getElem?_drop, List.getD_eq_getElem?_getD]
theorem cutN_get {i : Nat} (h : i < cs.length) : cutN cs i = cs[i] := by
  unfold cutN; rw [List.getD_eq_getElem?_getD, List.getElem?_eq_getElem h]; rfl
/-- the first cut cut off -/
theorem IsCuts.tail {b off n c : Nat} (h : IsCuts w M (.slice (some ⟨b, off, none⟩) n c) cs) (hn : 1 ≤ n) :
    IsCuts w M (.slice (if c = 1 then some ⟨b, off, none⟩ else some ⟨b, off + 3, none⟩) (n - 1) (c - 1)) (cs.drop 1) := by
  obtain ⟨A', c', e, h1, h2, h3⟩ := h
  obtain ⟨rfl, hn', rfl⟩ := Value.slice.inj e
  subst hn'
  refine ⟨_, _, by rw [List.length_drop], by rw [List.length_drop]; omega, by omega, fun hlt => ?_⟩
  rw [List.length_drop] at hlt
  obtain ⟨b2, off2, e, h4⟩ := h3 (by omega)
  injection e with e
  injection e with e e'
  subst e e'
  rw [if_neg (by omega)]
  refine ⟨b, off + 3, rfl, h4.blk, fun i hi => ?_⟩
  rw [List.length_drop] at hi
  rw [cutN_drop]
  have := h4.at_ (1 + i) (by omega)
  rwa [show off + (1 + i) * 3 = off + 3 + i * 3 by omega] at this
end
theorem riv_few {q : RaceD} (h : SizeR q) (h6 : q.clubs.length ≤ 6) (k : Nat) : (comb (rivR q) k).length ≤ 2048 := by
  have h1 := comb_pow (rivR q) k
  have h2 := rivTo_lt h.c0 h.cn
  have h3 : (rivR q).length ≤ 5 := by unfold rivR; omega
  have h4 : 2 ^ (rivR q).length ≤ 2 ^ 5 := Nat.pow_le_pow_right (by omega) h3
  omega
set_option maxRecDepth 20000 in
set_option maxHeartbeats 4000000 in
theorem byFlow_any (w : World) (M : Nat → Prop) (v : Value) (q : RaceD) (h : IsRace w M v q) (hs : SizeR q) (h6 : q.clubs.length ≤ 6) : Calls Try.prog 62 #[v] w fun e w' => e = .returned (.bool (halvesB q)) ∧ Below w.heap.size w w' := by
  obtain ⟨pl, hpl⟩ : ∃ pl : Nat, q.place = (pl : Int) := ⟨q.place.toNat, by have := hs.p1; omega⟩
  have hp1 : 1 ≤ pl := by have := hs.p1; omega
  have hp24 : pl ≤ 24 := by have := hs.pn; have := hs.n24; omega
  have hd := And.intro hs.d0 (show q.draw ≤ 999 by have := hs.dw; have := hs.w9; omega)
  have CH := fun (W : World) (hB : Below w.heap.size w W) => Lib.hid (halves_any W M _ q (h.below hB) hd)
  have CF := fun (W : World) (hB : Below w.heap.size w W) (k : Nat) (hk : k ≤ 24) => Lib.hid (few_any W M _ q (h.below hB) hs k hk (riv_few hs h6 k))
  obtain ⟨cA, cc, pA, pc, oA, oc, rfl, -⟩ := h.parts
  rw [hpl] at CH CF ⊢
  clear h hs hd h6 hpl
  obtain ⟨z, hz⟩ : ∃ z, z = halvesB q := ⟨_, rfl⟩
  rw [← hz] at CH ⊢
  clear hz
  have hpw : IntKind.i64.wrap ((pl : Int) - 1) = ((pl - 1 : Nat) : Int) := by rw [IntWalk.i64_in _ (by omega)]; omega
  have HPW := Lib.hid hpw
  have hpl2 : (pl : Int) - 1 = ((pl - 1 : Nat) : Int) := by omega
  have HPL2 := Lib.hid hpl2
  clear hpw hpl2
  go_enter Try.func62, Try.ntmps62
  go_wp2_with fail
  refine nameW fun W1 hW1 => ?_
  have hb1 : Below w.heap.size w W1 := by rw [hW1.out]; exact (Below.refl _ _).alloc (Nat.le_refl _) _
  have k0 : W1.heap[w.heap.size]? = some (.cells #[.int .i64 q.win, .int .i64 q.draw, .slice cA q.clubs.length cc, .slice pA q.points.length pc, .slice oA q.opn.length oc, .int .i64 q.club, .int .i64 (pl : Int)] 55 (0, 0)) := by rw [hW1.out]; exact heap_alloc_new _ _
  have K0 := Lib.hid k0
  have HB1 := Lib.hid hb1
  clear hW1 hb1 k0
  refine (CH _ HB1.out).out.mono ?_
  rintro e W2 ⟨rfl, hb⟩
  have HB2 := Lib.hid (HB1.out.trans (hb.mono HB1.out.size))
  have K2 := Lib.hid ((hb.block _ (lt_heap K0.out)).trans K0.out)
  clear hb K0 HB1
  cases z
  · go_wp2_with fail
    go_ret
    exact ⟨rfl, HB2.out⟩
  have r0 := cell_of (j := 0) K2.out rfl
  have r1 := cell_of (j := 1) K2.out rfl
  have r2 := cell_of (j := 2) K2.out rfl
  have r3 := cell_of (j := 3) K2.out rfl
  have r4 := cell_of (j := 4) K2.out rfl
  have r5 := cell_of (j := 5) K2.out rfl
  have r6 := cell_of (j := 6) K2.out rfl
  go_wp2_with fail
  refine (CF _ HB2.out pl hp24).out.mono ?_
  rintro e W3 ⟨rfl, hb⟩
  have HB3 := Lib.hid (HB2.out.trans (hb.mono HB2.out.size))
  have K3 := Lib.hid ((hb.block _ (lt_heap K2.out)).trans K2.out)
  clear hb K2 HB2 r0 r1 r2 r3 r4 r5 r6
  have r0 := cell_of (j := 0) K3.out rfl
  have r1 := cell_of (j := 1) K3.out rfl
  have r2 := cell_of (j := 2) K3.out rfl
  have r3 := cell_of (j := 3) K3.out rfl
  have r4 := cell_of (j := 4) K3.out rfl
  have r5 := cell_of (j := 5) K3.out rfl
  have r6 := cell_of (j := 6) K3.out rfl
  go_wp2_with fail
  try rw [HPW.out]
  try rw [HPL2.out]
  refine (CF _ HB3.out (pl - 1) (by omega)).out.mono ?_
  rintro e W4 ⟨rfl, hb⟩
  have HB4 := Lib.hid (HB3.out.trans (hb.mono HB3.out.size))
  clear hb r0 r1 r2 r3 r4 r5 r6
  go_wp2_with fail
  go_ret
  exact ⟨rfl, HB4.out⟩
theorem bySearch_any (w : World) (M : Nat → Prop) (v : Value) (q : RaceD) (h : IsRace w M v q) (hl : q.opn.length ≤ 1000) : Calls Try.prog 63 #[v] w fun e w' => e = .returned (.bool (decide (q.opn.length ≤ 8))) ∧ Below w.heap.size w w' := by
  obtain ⟨cA, cc, pA, pc, oA, oc, rfl, -⟩ := h.parts
  obtain ⟨n, hn⟩ : ∃ n, n = q.opn.length := ⟨_, rfl⟩
  rw [← hn] at hl
  rw [← hn]
  clear h hn
  by_cases h8 : n ≤ 8
  · have d1 : decide ((n : Int) ≤ 8) = true := by rw [decide_eq_true_eq]; omega
    have HQ := Lib.hid (decide_eq_true h8)
    clear h8
    go_enter Try.func63, Try.ntmps63
    go_wp2_with fail
    go_ret
    exact ⟨ret_bool HQ.out.symm, (Below.refl _ _).alloc (Nat.le_refl _) _⟩
  · have d1 : decide ((n : Int) ≤ 8) = false := by rw [decide_eq_false_iff_not]; omega
    have HQ := Lib.hid (decide_eq_false h8)
    clear h8
    go_enter Try.func63, Try.ntmps63
    go_wp2_with fail
    go_ret
    exact ⟨ret_bool HQ.out.symm, (Below.refl _ _).alloc (Nat.le_refl _) _⟩
end Go.Proofs.Ythlnfjbedehjdaa
