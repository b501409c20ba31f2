/- The law MatchingTurned. -/
import Derived.Test.YtolappaekjdcgaaF1
import Derived.Test.YtolappaekjdcgaaE4
import Derived.Test.YtolappaekjdcgaaL7
namespace Go.Proofs.Ytolappaekjdcgaa
open Go.RowKit Sm
/-- the turned graph on its way: its box bh, its edges l in a row of their own -/
structure TurnW (w wr : World) (g : GrD) (Ae : Option Addr) (de bh B5 L R : Nat) (l : List (Int × Int)) : Prop where
  bel : Below w.heap.size w wr
  box : wr.heap[w.heap.size]? = some (.cells #[.int .i64 g.left, .int .i64 g.right, .slice Ae g.edges.length de] 24 (0, 0))
  base : B5 ≤ wr.heap.size
  row : ∃ vs, wr.heap[bh]? = some (.cells #[.int .i64 (R : Int), .int .i64 (L : Int), vs] 24 (0, 0)) ∧ wr.ownsRow B5 46 2 vs l.length (rowE l)
theorem TurnW.step {w wr w7 : World} {g : GrD} {Ae A7 : Option Addr} {de bh B5 L R d7 : Nat} {l m : List (Int × Int)} (h : TurnW w wr g Ae de bh B5 L R l) (h1 : w.heap.size < bh) (h2 : bh < B5) (hb : Below B5 wr w7) (ho : w7.ownsRow B5 46 2 (.slice A7 m.length d7) m.length (rowE m)) : TurnW w (w7.setCell ⟨bh, 2, none⟩ (.slice A7 m.length d7)) g Ae de bh B5 L R m := by
  obtain ⟨k1, k2, k3, vs, k4, -⟩ := h
  refine ⟨(k1.trans (hb.mono (by omega))).setCell (by show w.heap.size ≤ bh; omega) _, (Below.heap_setCell _ _ _ _ (by show w.heap.size ≠ bh; omega)).trans ((hb.block _ (by omega)).trans k2), by have := hb.size; simp [World.setCell]; omega, _, by rw [heap_set_if, if_pos rfl, hb.block bh h2, k4]; rfl, ho.1, ?_⟩
  rcases ho.2 with h3 | ⟨r, cap, cur, hv, hbb, hh, rest⟩
  · exact .inl h3
  · exact .inr ⟨r, cap, cur, hv, hbb, (Below.heap_setCell _ _ _ _ (by show r ≠ bh; omega)).trans hh, rest⟩
theorem TurnW.drew {w wr : World} {g : GrD} {Ae : Option Addr} {de bh B5 L R : Nat} {l : List (Int × Int)} (h : TurnW w wr g Ae de bh B5 L R l) : TurnW w wr.drew g Ae de bh B5 L R l := by
  obtain ⟨k1, k2, k3, vs, k4, k5⟩ := h
  exact ⟨k1.drew, k2, k3, vs, k4, k5.drew⟩
set_option maxHeartbeats 1000000 in
set_option maxRecDepth 100000 in
theorem law9 (w : World) (M : Nat → Prop) (v : Value) (g : GrD) (h : IsGraph w M v g) :
    Calls Try.prog 9 #[v] w fun e w' => e = .returned (.bool true) ∧ Below w.heap.size w w' := by
  have HG := Lib.hid h
  obtain ⟨v2, rfl, -⟩ := h
  obtain ⟨Ae, de, he⟩ : ∃ A c, v2 = .slice A g.edges.length c := by
    obtain ⟨v3, e, A, c, rfl, -⟩ := HG.out
    simp only [Value.agg.injEq, Array.mk.injEq, List.cons.injEq, true_and, and_true] at e
    exact ⟨A, c, e⟩
  subst he
  go_enter Try.func9, Try.ntmps9
  go_wp2_with fail
  refine nameW fun W1 hW1 => ?_
  have hB1 : Below w.heap.size w W1 := by rw [hW1.out]; exact (Below.refl w.heap.size w).alloc (Nat.le_refl _) _
  have hb1 : W1.heap[w.heap.size]? = some (.cells #[.int .i64 g.left, .int .i64 g.right, .slice Ae g.edges.length de] 24 (0, 0)) := by rw [hW1.out, heap_alloc_if, if_pos rfl]
  have HB1 := Lib.hid hB1
  have HX1 := Lib.hid hb1
  have HG1 := Lib.hid (HG.out.below hB1)
  obtain ⟨c0, c1, c2⟩ := graph_box hb1
  clear hW1 hB1 hb1
  refine (sane_any W1).mono ?_
  rintro e w2 ⟨rfl, hb⟩
  have HB2 := Lib.hid (HB1.out.trans (hb.mono HB1.out.size))
  have HG2 := Lib.hid (HG1.out.below hb)
  have HX2 := Lib.hid ((hb.block _ (lt_heap HX1.out)).trans HX1.out)
  clear hb c0 c1 c2 HB1 HG1 HX1
  obtain ⟨c0, c1, c2⟩ := graph_box HX2.out
  have CF := Lib.hid (few_any w2 M _ g HG2.out)
  cases hfew : fewB g
  · rw [hfew] at CF
    clear hfew
    go_wp2_with fail
    refine CF.out.mono ?_
    rintro e w3 ⟨rfl, hb⟩
    go_wp2_with fail
    go_ret
    exact ⟨rfl, HB2.out.trans (hb.mono HB2.out.size)⟩
  rw [hfew] at CF
  have HFEW := Lib.hid hfew
  clear hfew
  go_wp2_with fail
  refine CF.out.mono ?_
  rintro e w3 ⟨rfl, hb⟩
  have HB3 := Lib.hid (HB2.out.trans (hb.mono HB2.out.size))
  have HG3 := Lib.hid (HG2.out.below hb)
  have HX3 := Lib.hid ((hb.block _ (lt_heap HX2.out)).trans HX2.out)
  clear hb c0 c1 c2 HB2 HG2 HX2
  obtain ⟨c0, c1, c2⟩ := graph_box HX3.out
  clear CF
  have hE60 : g.edges.length ≤ 60 := by
    have := HFEW.out
    unfold fewB at this
    simp only [Bool.and_eq_true, decide_eq_true_eq] at this
    exact this.1
  have hR40 : g.right ≤ 40 := by
    have := HFEW.out
    unfold fewB at this
    simp only [Bool.and_eq_true, decide_eq_true_eq] at this
    exact this.2.2
  have CK := Lib.hid (mcheck_any w3 M _ g HG3.out)
  cases hc : chkB g
  · rw [chkG_no hc] at CK
    clear hc
    go_wp2_with fail
    refine CK.out.mono ?_
    rintro e w4 ⟨rfl, hb⟩
    go_wp2_with fail
    go_ret
    exact ⟨rfl, HB3.out.trans (hb.mono HB3.out.size)⟩
  rw [chkG_yes hc] at CK
  obtain ⟨L, R, hg⟩ := gok_of hc
  have HGO := Lib.hid hg
  have HC := Lib.hid hc
  have hl512 := hg.l512
  have hRR : R ≤ 40 := by have := hg.right; omega
  have HLE := Lib.hid hg.left
  have HRE := Lib.hid hg.right
  have HGT := Lib.hid (turn_ok hg hRR hE60)
  clear hc hg hR40
  go_wp2_with fail
  refine CK.out.mono ?_
  rintro e w4 ⟨rfl, hb⟩
  have HB4 := Lib.hid (HB3.out.trans (hb.mono HB3.out.size))
  have HG4 := Lib.hid (HG3.out.below hb)
  have HX4 := Lib.hid ((hb.block _ (lt_heap HX3.out)).trans HX3.out)
  clear hb c0 c1 c2 HB3 HG3 HX3
  obtain ⟨c0, c1, c2⟩ := graph_box HX4.out
  rw [HLE.out] at c0
  rw [HRE.out] at c1
  clear CK
  go_upto_region 6 with fail
  refine nameC fun W5 hW5 => ?_
  have hb : Below w4.heap.size w4 W5 := by rw [hW5.out]; exact (Below.refl _ _).alloc (Nat.le_refl _) _
  have hh5 : W5.heap[w4.heap.size]? = some (.cells #[.int .i64 (R : Int), .int .i64 (L : Int), .slice none 0 0] 24 (0, 0)) := by rw [hW5.out, heap_alloc_if, if_pos rfl]
  have hbw : w.heap.size < w4.heap.size := lt_heap HX4.out
  obtain ⟨bh, hbh⟩ : ∃ bh, bh = w4.heap.size := ⟨_, rfl⟩
  rw [← hbh] at hh5 hbw ⊢
  have hbh5 : bh < W5.heap.size := lt_heap hh5
  have HH5 := Lib.hid hh5
  clear hW5 hh5 hbh
  have HB5 := Lib.hid (HB4.out.trans (hb.mono HB4.out.size))
  have HG5 := Lib.hid (HG4.out.below hb)
  have HX5 := Lib.hid ((hb.block _ (lt_heap HX4.out)).trans HX4.out)
  clear hb c0 c1 c2 HB4 HG4 HX4
  obtain ⟨c0, c1, c2⟩ := graph_box HX5.out
  obtain ⟨ii, hii, hz0, hz1, hz2⟩ := info_parts Try.info_edge
  have HIU := Lib.hid (And.intro hii (And.intro hz0 (And.intro hz1 hz2)))
  clear hii hz0 hz1 hz2 c0 c1 c2
  obtain ⟨B5, hB5⟩ : ∃ B5, B5 = W5.heap.size := ⟨_, rfl⟩
  have HBE := Lib.hid hB5
  rw [← hB5] at hbh5
  clear hB5
  go_wp2_with fail
  go_loopw [4] (fun q4 wr => ∃ v : Nat, v ≤ R ∧ q4 = .int .i64 (v : Int) ∧ Hid (TurnW w wr g Ae de bh B5 L R (turnTo g.edges v))) (fun q _ => R - (intOf q).toNat)
  case atStart => exact ⟨0, Nat.zero_le _, rfl, Lib.hid ⟨HB5.out, HX5.out, by rw [HBE.out]; exact Nat.le_refl _, _, HH5.out, own_nil _ _ _ _⟩⟩
  case round =>
    obtain ⟨v, hv, rfl, HT⟩ := hrel
    have c1 : wr.cell? ⟨w.heap.size, 1, none⟩ = some (.int .i64 (R : Int)) := by rw [← HRE.out]; exact cell_of HT.out.box rfl
    by_cases hvR : v < R
    · have hvI : (v : Int) < (R : Int) := by omega
      have hv0 : (0 : Int) ≤ (v : Int) := by omega
      go_wp2_with fail
      go_loopw [5] (fun q5 wx => ∃ k : Nat, k ≤ g.edges.length ∧ q5 = .int .i64 (k : Int) ∧ Hid (TurnW w wx g Ae de bh B5 L R (turnTo g.edges v ++ turnV (g.edges.take k) v))) (fun q _ => g.edges.length - (intOf q).toNat)
      case atStart => exact ⟨0, Nat.zero_le _, rfl, Lib.hid (by simpa [turnV] using HT.out)⟩
      case round =>
        obtain ⟨k, hk, rfl, HU⟩ := hrel
        clear c1
        obtain ⟨c0, c1, c2⟩ := graph_box HU.out.box
        have hblw := lt_heap HU.out.box
        by_cases hlt : k < g.edges.length
        · have hltI : (k : Int) < (g.edges.length : Int) := by omega
          have hk0 : (0 : Int) ≤ (k : Int) := by omega
          obtain ⟨v3, hve, hed⟩ := HG.out
          simp only [Value.agg.injEq, Array.mk.injEq, List.cons.injEq, true_and, and_true] at hve
          subst hve
          obtain ⟨bb, off, rfl, hb, e0, e1⟩ := hed.at_ HU.out.bel hlt
          rw [← nthE_get hlt] at e0 e1
          have hbbr : bb < wr.heap.size := Nat.lt_of_lt_of_le hb HU.out.bel.size
          have HY := Lib.hid (fun h => turnV_snoc_yes (v := v) hlt h)
          have HN := Lib.hid (fun h => turnV_snoc_no (v := v) hlt h)
          have hlT := turnTo_len g.edges v
          have hlV := turnV_len (g.edges.take k) v
          obtain ⟨lt, hlt'⟩ : ∃ l, l = turnTo g.edges v ++ turnV (g.edges.take k) v := ⟨_, rfl⟩
          have hltl : lt.length ≤ 900 + 2400 := by
            rw [hlt', List.length_append]
            have h1 : v * g.edges.length ≤ 40 * 60 := Nat.mul_le_mul (by omega) hE60
            have h2 := List.length_take_le k g.edges
            omega
          have HLT := Lib.hid hlt'
          rw [← hlt'] at HU
          obtain ⟨a, ha⟩ : ∃ a, a = nthE g.edges k := ⟨_, rfl⟩
          rw [← ha] at e0 e1 HY HN
          obtain ⟨p, q⟩ := a
          clear ha hed hlT hlV hlt'
          dsimp only at e0 e1 HY HN
          cases hq : (q == (v : Int))
          · have HU2 : Hid (TurnW w wr g (some ⟨bb, off, none⟩) de bh B5 L R (turnTo g.edges v ++ turnV (g.edges.take (k + 1)) v)) := Lib.hid (by rw [HN.out hq, ← HLT.out]; exact HU.out)
            go_wp2_with fail
            go_roundw
            case rel => exact ⟨k + 1, by omega, by go_num, HU2⟩
            case measure => simp [intOf]; omega
          · have HY2 := Lib.hid (HY.out hq)
            obtain ⟨vs, hvs, hown⟩ := HU.out.row
            have HVS := Lib.hid hvs
            have HOW := Lib.hid hown
            obtain ⟨As, ds, rfl⟩ := own_sl hown
            have hbhr : bh < wr.heap.size := by have := HU.out.base; omega
            have hh2 : wr.cell? ⟨bh, 2, none⟩ = some (.slice As lt.length ds) := cell_of hvs rfl
            have hw1 : w.heap.size ≠ bh := by omega
            have hw2 : bb ≠ bh := by omega
            have hBr := HU.out.base
            clear hvs hown
            go_upto_region 13 with fail
            go_region_law (refine step_edges B5 lt [((v : Int), p)] (v := .slice As lt.length ds) (vm := .slice (some ⟨wr.heap.size, 0, none⟩) 1 1) (M := fun b => wr.heap.size ≤ b) ?_ ?_ ?_ ?_ rfl (.tmp 47) (.tmp 56) rfl rfl rfl ?_; (focus ((repeat (first | with_reducible exact HOW.out | (with_reducible refine World.ownsRow.drew ?_) | (with_reducible refine World.ownsRow.alloc ?_ _))); done)); (focus (exact IsEdges.ofOwn (by repeat (first | (with_reducible refine World.ownsRow.drew ?_) | exact own_one _ (v : Int) p (Nat.le_refl _))))); (focus (simp; omega)); (focus (first | exact hBr | (simp; omega))); intro A7 d7 w7 H7; have HH7 := Lib.hid ((H7.out.2.1.block bh (by simp; omega) (fun e => by have := own_base HOW.out _ e.symm; omega)).trans (heap_alloc_keep (w := wr) HVS.out _)); have hx7 : w7.cell? ⟨bh, 2, none⟩ = some (.slice As lt.length ds) := cell_of HH7.out rfl; have hf7 : w7.frozen? ⟨bh, 2, none⟩ = false := frz_at HH7.out; have HT7 : Hid (TurnW w (w7.setCell ⟨bh, 2, none⟩ (.slice A7 (lt ++ [((v : Int), p)]).length d7)) g (some ⟨bb, off, none⟩) de bh B5 L R (lt ++ [((v : Int), p)])) := Lib.hid (HU.out.step hbw hbh5 (Below.trans (by repeat (first | with_reducible exact Below.refl _ _ | (with_reducible refine Below.drew ?_) | (with_reducible refine Below.alloc ?_ hBr _))) H7.out.2.2) H7.out.1))
            all_goals
              have HU2 : Hid (TurnW w (w7.setCell ⟨bh, 2, none⟩ (.slice A7 (lt.length + 1) d7)) g (some ⟨bb, off, none⟩) de bh B5 L R (turnTo g.edges v ++ turnV (g.edges.take (k + 1)) v)) := Lib.hid (by
                have h7 := HT7.out
                rw [List.length_append, List.length_singleton] at h7
                rw [HY2.out, ← List.append_assoc, ← HLT.out]; exact h7)
              go_wp2_with fail
              exact ⟨⟨k + 1, by omega, by go_num, Lib.hid (by repeat (first | exact HU2.out | refine TurnW.drew ?_))⟩, by simp [intOf]; omega⟩
        · have hnl : ¬ (k : Int) < (g.edges.length : Int) := by omega
          obtain rfl : g.edges.length = k := by omega
          have HU2 : Hid (TurnW w wr g Ae de bh B5 L R (turnTo g.edges (v + 1))) := Lib.hid (by rw [turnTo_succ]; have := HU.out; rwa [List.take_length] at this)
          go_wp2_with fail
          exact ⟨⟨v + 1, by omega, by go_num, HU2⟩, by simp [intOf]; omega⟩
    · have hvn : ¬ (v : Int) < (R : Int) := by omega
      obtain rfl : R = v := by omega
      obtain ⟨vs, hvs, hown⟩ := HT.out.row
      obtain ⟨As, ds, rfl⟩ := own_sl hown
      have HVS := Lib.hid hvs
      have HEH : Hid (IsEdges wr (fun b => B5 ≤ b) (.slice As (turnTo g.edges R).length ds) (turnTo g.edges R)) := Lib.hid (IsEdges.ofOwn hown)
      obtain ⟨d0, d1, d2⟩ := graph_box hvs
      clear c1
      obtain ⟨c0, c1, c2⟩ := graph_box HT.out.box
      rw [HRE.out] at c1
      have hbl := lt_heap HT.out.box
      have hbhr := lt_heap hvs
      obtain ⟨ht, hht⟩ : ∃ h : GrD, h = ⟨(R : Int), (L : Int), turnTo g.edges R⟩ := ⟨_, rfl⟩
      have HHT := Lib.hid hht
      have C1 := Lib.hid (max_yes wr M _ g (HG.out.below HT.out.bel) HC.out HGO.out)
      rw [HRE.out] at C1
      have C2 := fun W (hb : Below wr.heap.size wr W) => Lib.hid (max_yes W (fun b => B5 ≤ b) (.agg #[.int .i64 (R : Int), .int .i64 (L : Int), .slice As (turnTo g.edges R).length ds]) ht (IsGraph.below ⟨_, by rw [hht], by rw [hht]; exact HEH.out⟩ hb) (by rw [hht]; exact chk_of HGT.out) (by rw [hht]; exact HGT.out))
      obtain ⟨tl, htl⟩ : ∃ tl, tl = (turnTo g.edges R).length := ⟨_, rfl⟩
      rw [← htl] at d2 C2
      clear hvs hown hht htl
      go_wp2_with fail
      refine C1.out.mono ?_
      rintro e w9 ⟨v9, lf, rf, rfl, hi9, hf9, hb9⟩
      obtain ⟨A9, d9, rfl⟩ := ints_sl hi9 (n := L) (by simp)
      have C29 := C2 w9 hb9
      have HF9 := Lib.hid hf9
      have HI9 := Lib.hid hi9
      have HB9 := Lib.hid (HT.out.bel.trans (hb9.mono HT.out.bel.size))
      replace d0 := (hb9.cell (p := ⟨bh, 0, none⟩) hbhr).trans d0
      replace d1 := (hb9.cell (p := ⟨bh, 1, none⟩) hbhr).trans d1
      replace d2 := (hb9.cell (p := ⟨bh, 2, none⟩) hbhr).trans d2
      clear hb9 C1 C2 hi9 hf9 c0 c1 c2
      go_wp2_with fail
      refine C29.out.mono ?_
      rintro e w10 ⟨v10, lf', rf', rfl, hi10, hf10, hb10⟩
      obtain ⟨A10, d10, rfl⟩ := ints_sl hi10 (n := R) (by simp)
      have CS1 := Lib.hid (size_any w10 _ _ _ hi10)
      have CS2 := Lib.hid (size_any w10 _ _ _ (IsSl.below HI9.out hb10))
      rw [szI_map _ hf10.inv.ll] at CS1
      rw [szI_map _ HF9.out.inv.ll] at CS2
      have htr := turned HGO.out HF9.out (by rw [← HHT.out]; exact hf10)
      rw [← htr] at CS1
      obtain ⟨s, hs⟩ : ∃ s, s = sizeM (opt lf) L := ⟨_, rfl⟩
      rw [← hs] at CS1 CS2
      have hss : ((s : Int) == (s : Int)) = true := by simp
      have HB10 := Lib.hid (HB9.out.trans (hb10.mono HB9.out.size))
      clear htr hs hi10 hf10 hb10 C29 d0 d1 d2
      go_wp2_with (first | (with_reducible refine CS1.out.mono ?_; rintro e w' ⟨rfl, rfl⟩) | (with_reducible refine CS2.out.mono ?_; rintro e w' ⟨rfl, rfl⟩))
      go_ret
      exact ⟨rfl, HB10.out⟩
end Go.Proofs.Ytolappaekjdcgaa
