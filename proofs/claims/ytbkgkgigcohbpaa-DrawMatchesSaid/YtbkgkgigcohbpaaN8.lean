/- For every draw the law DrawMatches of the given program returns true. -/
import Derived.Test.YtbkgkgigcohbpaaN2
import Derived.Test.YtbkgkgigcohbpaaN4
import Derived.Test.YtbkgkgigcohbpaaM9
import Derived.Test.YtbkgkgigcohbpaaB1
namespace Go.Proofs.Ytbkgkgigcohbpaa
open Go.RowKit
section
variable {ops : Array Oper} {rest : List Oper} {o : Oper} {a : Act} {W : World} {Q : Exit → Act → World → Prop}
/-- append of pairs onto an own row of pairs -/
theorem list_edges (base : Nat) (l m : List (Int × Int)) {v vm : Value} {M : Nat → Prop} (hown : W.ownsRow base 47 2 v l.length (rowE l)) (hm : IsEdges W M vm m) (hlen : l.length + m.length ≤ 1000) (hbase : base ≤ W.heap.size) (hgd : o.guard = none) (s x : Operand)
    (ho : o.op = .call { callee := .builtin .append, args := #[s, x], argTypes := #[23, 23] }) (hs : a.eval s = v) (hx : a.eval x = vm)
    (hK : ∀ A c w', Hid (w'.ownsRow base 47 2 (.slice A (l ++ m).length c) (l ++ m).length (rowE (l ++ m)) ∧ W.grownBy w' v.ownBlock ∧ Below base W w') → wpList Try.prog ops Q rest (a.put o.dst (.slice A (l ++ m).length c)) w') :
    wpList Try.prog ops Q (o :: rest) a W := by
  obtain ⟨ii, hii, hz0, hz1, hz2⟩ := info_parts Try.info_edge
  obtain ⟨A, c, rfl, hl1, hl2, hcells⟩ := id hm
  refine wpList_append_cells W hgd s x 23 ho base 47 ii (.agg #[.int .i64 0, .int .i64 0]) 2 16 Try.underlying23 hii hz0 hz1 hz2 rfl (by decide) v l.length (rowE l) hs hown A m.length c (rowE m) hx (rowE_len m) (fun h => edges_news hm h) (one_edge m) (by unfold maxLen; omega) (by omega) hbase ?_
  intro v' w' h1 h2 h3
  rw [← rowE_app, ← List.length_append] at h1
  obtain ⟨A', c', rfl⟩ := own_sl h1
  exact hK A' c' w' ⟨h1, h2, (Below.refl base W).grown h2 hbase (own_base hown)⟩
end
theorem own_below {w w' : World} {B e s n : Nat} {v : Value} {l : List Value} (h : w.ownsRow B e s v n l) (hb : Below w.heap.size w w') : w'.ownsRow B e s v n l := by
  refine ⟨h.1, ?_⟩
  rcases h.2 with h3 | ⟨r, cap, cur, hv, hbb, hh, rest⟩
  · exact .inl h3
  · exact .inr ⟨r, cap, cur, hv, hbb, (hb.block r (lt_heap hh)).trans hh, rest⟩
/-- the graph of the permitted pairs on its way: its box bh, its edges l in a row of their own -/
structure PairW (w wr : World) (v1 v2 v3 : Value) (bh B5 n : Nat) (l : List (Int × Int)) : Prop where
  bel : Below w.heap.size w wr
  box : wr.heap[w.heap.size]? = some (.cells #[v1, v2, v3] 25 (0, 0))
  base : B5 ≤ wr.heap.size
  row : ∃ vs, wr.heap[bh]? = some (.cells #[.int .i64 (n : Int), .int .i64 (n : Int), vs] 49 (0, 0)) ∧ wr.ownsRow B5 47 2 vs l.length (rowE l)
theorem PairW.step {w wr w7 : World} {v1 v2 v3 : Value} {A7 : Option Addr} {bh B5 n d7 : Nat} {l m : List (Int × Int)} (h : PairW w wr v1 v2 v3 bh B5 n l) (h1 : w.heap.size < bh) (h2 : bh < B5) (hb : Below B5 wr w7) (ho : w7.ownsRow B5 47 2 (.slice A7 m.length d7) m.length (rowE m)) : PairW w (w7.setCell ⟨bh, 2, none⟩ (.slice A7 m.length d7)) v1 v2 v3 bh B5 n m := by
  obtain ⟨k1, k2, k3, vs, k4, -⟩ := h
  refine ⟨(k1.trans (hb.mono (by omega))).setCell (by show w.heap.size ≤ bh; omega) _, (Below.heap_setCell _ _ _ _ (by show w.heap.size ≠ bh; omega)).trans ((hb.block _ (by omega)).trans k2), by have := hb.size; simp [World.setCell]; omega, _, by rw [heap_set_if, if_pos rfl, hb.block bh h2, k4]; rfl, ho.1, ?_⟩
  rcases ho.2 with h3 | ⟨r, cap, cur, hv, hbb, hh, rest⟩
  · exact .inl h3
  · exact .inr ⟨r, cap, cur, hv, hbb, (Below.heap_setCell _ _ _ _ (by show r ≠ bh; omega)).trans hh, rest⟩
theorem PairW.drew {w wr : World} {v1 v2 v3 : Value} {bh B5 n : Nat} {l : List (Int × Int)} (h : PairW w wr v1 v2 v3 bh B5 n l) : PairW w wr.drew v1 v2 v3 bh B5 n l := by
  obtain ⟨k1, k2, k3, vs, k4, k5⟩ := h
  exact ⟨k1.drew, k2, k3, vs, k4, k5.drew⟩
theorem PairW.below {w wr w' : World} {v1 v2 v3 : Value} {bh B5 n : Nat} {l : List (Int × Int)} (h : PairW w wr v1 v2 v3 bh B5 n l) (hb : Below wr.heap.size wr w') : PairW w w' v1 v2 v3 bh B5 n l := by
  obtain ⟨k1, k2, k3, vs, k4, k5⟩ := h
  exact ⟨k1.trans (hb.mono k1.size), (hb.block _ (lt_heap k2)).trans k2, Nat.le_trans k3 hb.size, vs, (hb.block _ (lt_heap k4)).trans k4, own_below k5 hb⟩
theorem draw_box {w : World} {b : Nat} {x y z : Value} {t : Nat} (h : w.heap[b]? = some (.cells #[x, y, z] t (0, 0))) : w.cell? ⟨b, 0, none⟩ = some x ∧ w.cell? ⟨b, 1, none⟩ = some y ∧ w.cell? ⟨b, 2, none⟩ = some z := ⟨cell_of h rfl, cell_of h rfl, cell_of h rfl⟩
theorem rowTo_lt {d : DrawD} {n i k : Nat} (hi : i < n) (hk : k ≤ n) (hn : n ≤ 16) : (pairsTo d n i ++ rowTo d i k).length ≤ 600 := by
  rw [List.length_append]
  have h1 := pairs_len d n i
  have h2 := rowTo_len d i k
  have h3 : i * n ≤ 16 * 16 := Nat.mul_le_mul (by omega) hn
  omega
set_option maxHeartbeats 1000000 in
set_option maxRecDepth 8000 in
theorem law8 (w : World) (M : Nat → Prop) (v : Value) (d : DrawD) (h : IsDraw w M v d) :
    Calls Try.prog 8 #[v] w fun e w' => e = .returned (.bool true) ∧ Below w.heap.size w w' := by
  have HD := Lib.hid h
  obtain ⟨v1, v2, v3, rfl, ⟨A1, d1, rfl, -⟩, ⟨A2, d2, rfl, -⟩, -⟩ := h
  go_enter Try.func8, Try.ntmps8
  go_wp2_with fail
  refine nameW fun W1 hW1 => ?_
  have hB1 : Below w.heap.size w W1 := by rw [hW1.out]; exact (Below.refl w.heap.size w).alloc (Nat.le_refl _) _
  have hb1 : W1.heap[w.heap.size]? = some (.cells #[.slice A1 d.first.length d1, .slice A2 d.second.length d2, v3] 25 (0, 0)) := by rw [hW1.out, heap_alloc_if, if_pos rfl]
  refine (sane_any W1).mono ?_
  rintro e W2 ⟨rfl, hB2⟩
  have hb2 := (hB2.block w.heap.size (lt_heap hb1)).trans hb1
  have HB2 := Lib.hid (hB1.trans (hB2.mono hB1.size))
  have HX2 := Lib.hid hb2
  have c0 := cell_of (j := 0) hb2 rfl
  have c1 := cell_of (j := 1) hb2 rfl
  have c2 := cell_of (j := 2) hb2 rfl
  clear hB1 hb1 hB2 hb2 hW1
  have CL := Lib.hid (large_any W2 M _ d (HD.out.below HB2.out))
  cases hL : largeD d
  · rw [hL] at CL
    go_wp2_with fail
    refine CL.out.mono ?_
    rintro e W3 ⟨rfl, hB3⟩
    have hb3 := (hB3.block w.heap.size (lt_heap HX2.out)).trans HX2.out
    have HB3 := Lib.hid (HB2.out.trans (hB3.mono HB2.out.size))
    have HX3 := Lib.hid hb3
    clear c0 c1 c2 CL HB2 HX2 hB3
    have c0 := cell_of (j := 0) hb3 rfl
    have c1 := cell_of (j := 1) hb3 rfl
    have c2 := cell_of (j := 2) hb3 rfl
    clear hb3
    have CK := Lib.hid (refCheck_any W3 M _ d (HD.out.below HB3.out))
    cases hc : checkB d
    · rw [checkD_no hc] at CK
      go_wp2_with fail
      refine CK.out.mono ?_
      rintro e W4 ⟨rfl, hB4⟩
      go_wp2_with fail
      go_ret
      exact ⟨rfl, HB3.out.trans (hB4.mono HB3.out.size)⟩
    · rw [checkD_yes hc] at CK
      have HC := Lib.hid hc
      clear hc
      go_wp2_with fail
      refine CK.out.mono ?_
      rintro e W4 ⟨rfl, hB4⟩
      have hb4 := (hB4.block w.heap.size (lt_heap HX3.out)).trans HX3.out
      have HB4 := Lib.hid (HB3.out.trans (hB4.mono HB3.out.size))
      have HX4 := Lib.hid hb4
      clear c0 c1 c2 CK HB3 HX3 hB4
      have c0 := cell_of (j := 0) hb4 rfl
      have c1 := cell_of (j := 1) hb4 rfl
      have c2 := cell_of (j := 2) hb4 rfl
      clear hb4
      have hl5 := checkB_len HC.out
      have HN16 := Lib.hid hl5.2.1
      obtain ⟨n, hn⟩ : ∃ n, n = d.first.length := ⟨_, rfl⟩
      have hn2 : n = d.second.length := by rw [hn]; exact hl5.2.2.1
      have hn16 : n ≤ 16 := by rw [hn]; exact hl5.2.1
      have hx := HX4.out
      have hd := HD.out
      rw [← hn, ← hn2] at hx hd c0 c1
      replace HX4 := Lib.hid hx
      replace HD := Lib.hid hd
      have HNN := Lib.hid (And.intro hn hn2)
      clear hx hd hn hn2 hl5
      go_upto_region 6 with fail
      refine nameC fun W5 hW5 => ?_
      have hB5 : Below W4.heap.size W4 W5 := by rw [hW5.out]; exact (Below.refl _ _).alloc (Nat.le_refl _) _
      have hh5 : W5.heap[W4.heap.size]? = some (.cells #[.int .i64 (n : Int), .int .i64 (n : Int), .slice none 0 0] 49 (0, 0)) := by rw [hW5.out, heap_alloc_if, if_pos rfl]
      have hbw : w.heap.size < W4.heap.size := lt_heap HX4.out
      obtain ⟨bh, hbh⟩ : ∃ bh, bh = W4.heap.size := ⟨_, rfl⟩
      rw [← hbh] at hh5 hbw ⊢
      have hbh5 : bh < W5.heap.size := lt_heap hh5
      have HH5 := Lib.hid hh5
      have hb5 := (hB5.block w.heap.size (lt_heap HX4.out)).trans HX4.out
      have HB5 := Lib.hid (HB4.out.trans (hB5.mono HB4.out.size))
      have HX5 := Lib.hid hb5
      clear c0 c1 c2 HB4 HX4 hB5 hW5 hh5 hbh
      have c0 := cell_of (j := 0) hb5 rfl
      have c1 := cell_of (j := 1) hb5 rfl
      have c2 := cell_of (j := 2) hb5 rfl
      clear hb5
      obtain ⟨ii, hii, hz0, hz1, hz2⟩ := info_parts Try.info_edge
      have HIU := Lib.hid (And.intro hii (And.intro hz0 (And.intro hz1 hz2)))
      clear hii hz0 hz1 hz2
      obtain ⟨B5, hB5⟩ : ∃ B5, B5 = W5.heap.size := ⟨_, rfl⟩
      have HBE := Lib.hid hB5
      rw [← hB5] at hbh5
      clear hB5
      go_wp2_with fail
      go_loopw [32] (fun q32 wr => ∃ i : Nat, i ≤ n ∧ q32 = .int .i64 (i : Int) ∧ Hid (PairW w wr (.slice A1 n d1) (.slice A2 n d2) v3 bh B5 n (pairsTo d n i))) (fun q _ => n - (intOf q).toNat)
      case atStart => exact ⟨0, Nat.zero_le _, rfl, Lib.hid ⟨HB5.out, HX5.out, by rw [HBE.out]; exact Nat.le_refl _, _, HH5.out, own_nil _ _ _ _⟩⟩
      case round =>
        obtain ⟨i, hi, rfl, HT⟩ := hrel
        clear c0 c1 c2
        obtain ⟨c0, c1, c2⟩ := draw_box HT.out.box
        by_cases hin : i < n
        · have hiI : (i : Int) < (n : Int) := by omega
          have hi0 : (0 : Int) ≤ (i : Int) := by omega
          go_wp2_with fail
          go_loopw [38] (fun q38 wx => ∃ k : Nat, k ≤ n ∧ q38 = .int .i64 (k : Int) ∧ Hid (PairW w wx (.slice A1 n d1) (.slice A2 n d2) v3 bh B5 n (pairsTo d n i ++ rowTo d i k))) (fun q _ => n - (intOf q).toNat)
          case atStart => exact ⟨0, Nat.zero_le _, rfl, Lib.hid (by have := HT.out; simpa [rowTo] using this)⟩
          case round =>
            obtain ⟨k, hk, rfl, HU⟩ := hrel
            clear c0 c1 c2
            obtain ⟨c0, c1, c2⟩ := draw_box HU.out.box
            have hblw := lt_heap HU.out.box
            by_cases hkn : k < n
            · have hkI : (k : Int) < (n : Int) := by omega
              have hk0 : (0 : Int) ≤ (k : Int) := by omega
              have CM := Lib.hid (refMay_any wr M _ d (HD.out.below HU.out.bel) i k (by rw [← HNN.out.1]; exact hin) (by rw [← HNN.out.2]; exact hkn))
              have HLEN := Lib.hid (rowTo_lt (d := d) hin hk hn16)
              cases hm : mayD d i k
              · have HM := Lib.hid hm
                rw [hm] at CM
                clear hm
                go_wp2_with fail
                refine CM.out.mono ?_
                rintro e wy ⟨rfl, hBy⟩
                have HU2 : Hid (PairW w wy (.slice A1 n d1) (.slice A2 n d2) v3 bh B5 n (pairsTo d n i ++ rowTo d i (k + 1))) := Lib.hid (by rw [rowTo_no HM.out]; exact HU.out.below hBy)
                clear hBy CM c0 c1 c2
                go_wp2_with fail
                go_roundw
                case rel => exact ⟨k + 1, by omega, by go_num, HU2⟩
                case measure => simp [intOf]; omega
              · have HM := Lib.hid hm
                rw [hm] at CM
                clear hm
                go_wp2_with fail
                refine CM.out.mono ?_
                rintro e wy ⟨rfl, hBy⟩
                replace HU := Lib.hid (HU.out.below hBy)
                clear hBy CM c0 c1 c2 hblw
                obtain ⟨lt, hlt'⟩ : ∃ l, l = pairsTo d n i ++ rowTo d i k := ⟨_, rfl⟩
                have hltl : lt.length ≤ 600 := by rw [hlt']; exact HLEN.out
                have HLT := Lib.hid hlt'
                rw [← hlt'] at HU
                clear hlt' HLEN
                obtain ⟨vs, hvs, hown⟩ := HU.out.row
                have HVS := Lib.hid hvs
                have HOW := Lib.hid hown
                obtain ⟨As, ds, rfl⟩ := own_sl hown
                have hbhr : bh < wy.heap.size := by have := HU.out.base; omega
                have hh2 : wy.cell? ⟨bh, 2, none⟩ = some (.slice As lt.length ds) := cell_of hvs rfl
                have hw1 : w.heap.size ≠ bh := by omega
                have hBr := HU.out.base
                clear hvs hown
                go_wp2_with (at_builtin; refine list_edges B5 lt [((i : Int), (k : Int))] (v := .slice As lt.length ds) (vm := .slice (some ⟨wy.heap.size, 0, none⟩) 1 1) (M := fun b => wy.heap.size ≤ b) ?e1 ?e2 ?e3 ?e4 rfl (.tmp 46) (.tmp 50) rfl rfl rfl ?_)
                case e1 => (repeat (first | with_reducible exact HOW.out | (with_reducible refine World.ownsRow.drew ?_) | (with_reducible refine World.ownsRow.alloc ?_ _)))
                case e2 => exact IsEdges.ofOwn (by repeat (first | (with_reducible refine World.ownsRow.drew ?_) | exact own_one _ (i : Int) (k : Int) (Nat.le_refl _)))
                case e3 => simp; omega
                case e4 => first | exact hBr | (simp; omega)
                intro A7 d7 w7 H7
                have HH7 := Lib.hid ((H7.out.2.1.block bh (by simp; omega) (fun e => by have := own_base HOW.out _ e.symm; omega)).trans (heap_alloc_keep (w := wy) HVS.out _))
                have hx7 : w7.cell? ⟨bh, 2, none⟩ = some (.slice As lt.length ds) := cell_of HH7.out rfl
                have hf7 : w7.frozen? ⟨bh, 2, none⟩ = false := frz_at HH7.out
                have hst := HU.out.step (m := lt ++ [((i : Int), (k : Int))]) (A7 := A7) (d7 := d7) (w7 := w7) hbw hbh5 (Below.trans (by repeat (first | with_reducible exact Below.refl _ _ | (with_reducible refine Below.drew ?_) | (with_reducible refine Below.alloc ?_ hBr _))) H7.out.2.2) (by have h1 := H7.out.1; simp only [List.length_append, List.length_singleton] at h1 ⊢; exact h1)
                simp only [List.length_append, List.length_singleton] at hst
                have HT7 := Lib.hid hst
                clear hst
                (try simp only [Act.put])
                all_goals
                  have HU2 : Hid (PairW w (w7.setCell ⟨bh, 2, none⟩ (.slice A7 (lt.length + 1) d7)) (.slice A1 n d1) (.slice A2 n d2) v3 bh B5 n (pairsTo d n i ++ rowTo d i (k + 1))) := Lib.hid (by
                    have h7 := HT7.out
                    rw [rowTo_yes HM.out, ← List.append_assoc, ← HLT.out]; exact h7)
                  go_wp2_with fail
                  exact ⟨⟨k + 1, by omega, by go_num, Lib.hid (by repeat (first | exact HU2.out | refine PairW.drew ?_))⟩, by simp [intOf]; omega⟩
            · have hkn2 : ¬ (k : Int) < (n : Int) := by omega
              obtain rfl : n = k := by omega
              have HU2 : Hid (PairW w wr (.slice A1 n d1) (.slice A2 n d2) v3 bh B5 n (pairsTo d n (i + 1))) := Lib.hid (by rw [pairsTo_succ]; exact HU.out)
              go_wp2_with fail
              exact ⟨⟨i + 1, by omega, by go_num, HU2⟩, by simp [intOf]; omega⟩
        · have hin2 : ¬ (i : Int) < (n : Int) := by omega
          obtain rfl : n = i := by omega
          obtain ⟨vs, hvs, hown⟩ := HT.out.row
          obtain ⟨As, ds, rfl⟩ := own_sl hown
          have HEH : Hid (IsEdges wr (fun b => B5 ≤ b) (.slice As (pairsTo d n n).length ds) (pairsTo d n n)) := Lib.hid (IsEdges.ofOwn hown)
          obtain ⟨e0, e1, e2⟩ := draw_box hvs
          have hbl := lt_heap HT.out.box
          have hbhr := lt_heap hvs
          have HOK := Lib.hid (pairG_ok d hn16)
          have CC := Lib.hid (count_any wr M _ d (HD.out.below HT.out.bel))
          have hnD : n = nD d := HNN.out.1
          rw [show countD d = (Rn (mayD d) (nD d) 0, 0) by unfold countD; rw [HC.out]; rfl] at CC
          have C2 := fun W (hb : Below wr.heap.size wr W) => Lib.hid (max_yes W (fun b => B5 ≤ b) (.agg #[.int .i64 (n : Int), .int .i64 (n : Int), .slice As (pairsTo d n n).length ds]) (pairG d n) (IsGraph.below ⟨_, rfl, HEH.out⟩ hb) (chk_of26 HOK.out) HOK.out)
          obtain ⟨r, hr⟩ : ∃ r, r = Rn (mayD d) (nD d) 0 := ⟨_, rfl⟩
          rw [← hr] at CC
          have HRE := Lib.hid hr
          have HND := Lib.hid hnD
          obtain ⟨tl, htl⟩ : ∃ tl, tl = (pairsTo d n n).length := ⟨_, rfl⟩
          rw [← htl] at e2 C2
          clear hvs hown htl hr hnD
          go_wp2_with fail
          refine CC.out.mono ?_
          rintro e w9 ⟨rfl, hb9⟩
          have C29 := C2 w9 hb9
          have HT9 := Lib.hid (HT.out.below hb9)
          replace e0 := (hb9.cell (p := ⟨bh, 0, none⟩) hbhr).trans e0
          replace e1 := (hb9.cell (p := ⟨bh, 1, none⟩) hbhr).trans e1
          replace e2 := (hb9.cell (p := ⟨bh, 2, none⟩) hbhr).trans e2
          clear hb9 C2 CC c0 c1 c2
          go_wp2_with fail
          refine C29.out.mono ?_
          rintro e w10 ⟨v10, lf, rf, rfl, hi10, hf10, hb10⟩
          obtain ⟨A10, d10, rfl⟩ : ∃ A c, v10 = .slice A n c := by
            obtain ⟨A, c, e, -⟩ := hi10
            exact ⟨A, c, by rw [e]; simp⟩
          have HI := Lib.hid hi10
          have HT10 := Lib.hid (HT9.out.below hb10)
          obtain ⟨c0, c1, c2⟩ := draw_box HT10.out.box
          have HOM := Lib.hid (outs_mat HND.out (fun v r hv hr => pairG_ed d n v r hv hr) hf10)
          rw [← HRE.out, ← cntI_map lf n] at HOM
          obtain ⟨l, hl⟩ : ∃ l, l = (List.range n).map lf := ⟨_, rfl⟩
          have HLL := Lib.hid (show l.length = n by rw [hl]; simp)
          rw [← hl] at HI HOM
          clear hi10 hf10 hb10 C29 e0 e1 e2 hl
          go_wp2_with fail
          go_loopw [10, 73] (fun q10 q73 wx => ∃ k : Nat, k ≤ n ∧ q10 = .int .i64 (cntI (l.take k) : Int) ∧ q73 = .int .i64 (k : Int) ∧ Hid (Dr w10 wx)) (fun _ q _ => n - (intOf q).toNat)
          case atStart => exact ⟨0, Nat.zero_le _, by simp [cntI], rfl, Lib.hid (Dr.refl _)⟩
          case round =>
            obtain ⟨k, hk, rfl, rfl, HDR⟩ := hrel
            clear c0 c1 c2
            obtain ⟨c0, c1, c2⟩ := draw_box (HT10.out.below HDR.out.below).box
            by_cases hkn : k < n
            · have hkI : (k : Int) < (n : Int) := by omega
              have hk0 : (0 : Int) ≤ (k : Int) := by omega
              have hkl : k < l.length := by rw [HLL.out]; exact hkn
              obtain ⟨b1, o1, rfl, -, f1⟩ := HI.out.at_ HDR.out.below hkl
              have HSN := Lib.hid (cntI_snoc hkl)
              have hcl := cntI_le l k
              obtain ⟨s, hs⟩ : ∃ s, s = cntI (l.take k) := ⟨_, rfl⟩
              obtain ⟨p, hp⟩ : ∃ p, p = nthI l k := ⟨_, rfl⟩
              rw [← hs] at HSN hcl ⊢
              rw [← hp] at f1 HSN
              clear hs hp hkl
              by_cases hp0 : 0 ≤ p
              · have HP := Lib.hid hp0
                go_wp2_with fail
                go_roundw
                case rel => exact ⟨k + 1, by omega, by rw [HSN.out, if_pos (decide_eq_true HP.out)]; go_num, by go_num, Lib.hid (by first | exact HDR.out | exact HDR.out.drewN _ | exact HDR.out.drew)⟩
                case measure => simp [intOf]; omega
              · have HP := Lib.hid hp0
                have hpn : p < 0 := by omega
                go_wp2_with fail
                go_roundw
                case rel => exact ⟨k + 1, by omega, by rw [HSN.out, if_neg (by rw [decide_eq_true_eq]; exact HP.out)]; rfl, by go_num, Lib.hid (by first | exact HDR.out | exact HDR.out.drewN _ | exact HDR.out.drew)⟩
                case measure => simp [intOf]; omega
            · have hkn2 : ¬ (k : Int) < (n : Int) := by omega
              obtain rfl : n = k := by omega
              have ht : l.take n = l := by rw [← HLL.out]; exact List.take_length
              rw [ht]
              obtain ⟨s, hs⟩ : ∃ s, s = cntI l := ⟨_, rfl⟩
              rw [← hs] at HOM ⊢
              clear hs ht
              rcases Nat.eq_zero_or_pos r with hr | hr
              · subst hr
                have hsn : ¬ s = n := fun e => by have := HOM.out.2 e; omega
                have hs1 : ((s : Int) == (n : Int)) = false := by rw [beq_eq_false_iff_ne]; omega
                have hs2 : ¬ (s : Int) = (n : Int) := by omega
                go_wp2_with fail
                go_ret
                exact ⟨ret_bool (by simp; try omega), HT10.out.bel.trans (HDR.out.below.mono HT10.out.bel.size)⟩
              · obtain rfl : s = n := HOM.out.1 hr
                have hr2 : (0 : Int) < (r : Int) := by omega
                have HR2 := Lib.hid hr2
                go_wp2_with fail
                go_ret
                exact ⟨ret_bool (by have := HR2.out; simp; try omega), HT10.out.bel.trans (HDR.out.below.mono HT10.out.bel.size)⟩
  · rw [hL] at CL
    go_wp2_with fail
    refine CL.out.mono ?_
    rintro e W3 ⟨rfl, hB3⟩
    go_wp2_with fail
    go_ret
    exact ⟨rfl, HB2.out.trans (hB3.mono HB2.out.size)⟩
end Go.Proofs.Ytbkgkgigcohbpaa
