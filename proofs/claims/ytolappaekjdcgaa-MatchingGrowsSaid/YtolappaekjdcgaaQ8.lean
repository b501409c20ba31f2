/- The law MatchingGrows. -/
import Derived.Test.YtolappaekjdcgaaF1
import Derived.Test.YtolappaekjdcgaaE4
import Derived.Test.YtolappaekjdcgaaL7
namespace Go.Proofs.Ytolappaekjdcgaa
open Go.RowKit Sm
set_option maxHeartbeats 1000000 in
set_option maxRecDepth 100000 in
theorem law8 (w : World) (M : Nat → Prop) (v : Value) (g : GrD) (h : IsGraph w M v g) (x : Nat) (hx : x < 18446744073709551616) :
    Calls Try.prog 8 #[v, .int .u64 (x : Int)] w fun e w' => e = .returned (.bool true) ∧ Below w.heap.size w w' := by
  have HG := Lib.hid h
  obtain ⟨v2, rfl, -⟩ := h
  obtain ⟨Ae, de, he⟩ : ∃ A c, v2 = .slice A g.edges.length c := by
    obtain ⟨v3, e, A, c, rfl, -⟩ := HG.out
    simp only [Value.agg.injEq, Array.mk.injEq, List.cons.injEq, true_and, and_true] at e
    exact ⟨A, c, e⟩
  subst he
  go_enter Try.func8, Try.ntmps8
  go_wp2_with fail
  refine nameW fun W1 hW1 => ?_
  have hB1 : Below w.heap.size w W1 := by rw [hW1.out]; exact (Below.refl w.heap.size w).alloc (Nat.le_refl _) _
  have hb1 : W1.heap[w.heap.size]? = some (.cells #[.int .i64 g.left, .int .i64 g.right, .slice Ae g.edges.length de] 24 (0, 0)) := by rw [hW1.out, heap_alloc_if, if_pos rfl]
  have HB1 := Lib.hid hB1
  have HX1 := Lib.hid hb1
  have HG1 := Lib.hid (HG.out.below hB1)
  obtain ⟨c0, c1, c2⟩ := graph_box hb1
  clear hW1 hB1 hb1
  refine (sane_any W1).mono ?_
  rintro e w2 ⟨rfl, hb⟩
  have HB2 := Lib.hid (HB1.out.trans (hb.mono HB1.out.size))
  have HG2 := Lib.hid (HG1.out.below hb)
  have HX2 := Lib.hid ((hb.block _ (lt_heap HX1.out)).trans HX1.out)
  clear hb c0 c1 c2 HB1 HG1 HX1
  obtain ⟨c0, c1, c2⟩ := graph_box HX2.out
  have CF := Lib.hid (few_any w2 M _ g HG2.out)
  cases hfew : fewB g
  · rw [hfew] at CF
    clear hfew
    go_wp2_with fail
    refine CF.out.mono ?_
    rintro e w3 ⟨rfl, hb⟩
    go_wp2_with fail
    go_ret
    exact ⟨rfl, HB2.out.trans (hb.mono HB2.out.size)⟩
  rw [hfew] at CF
  have HFEW := Lib.hid hfew
  clear hfew
  by_cases hE0 : g.edges.length = 0
  · have hE1 : ((g.edges.length : Int) == 0) = true := by rw [hE0]; rfl
    clear hE0
    go_wp2_with fail
    refine CF.out.mono ?_
    rintro e w3 ⟨rfl, hb⟩
    have HB3 := Lib.hid (HB2.out.trans (hb.mono HB2.out.size))
    have HX3 := Lib.hid ((hb.block _ (lt_heap HX2.out)).trans HX2.out)
    obtain ⟨d0, d1, d2⟩ := graph_box HX3.out
    go_wp2_with fail
    go_ret
    exact ⟨rfl, HB3.out⟩
  have hE1 : ((g.edges.length : Int) == 0) = false := by rw [beq_eq_false_iff_ne]; omega
  have hE2 : ¬ (g.edges.length : Int) = 0 := by omega
  have hE60 : g.edges.length ≤ 60 := by
    have := HFEW.out
    unfold fewB at this
    simp only [Bool.and_eq_true, decide_eq_true_eq] at this
    exact this.1
  go_wp2_with fail
  refine CF.out.mono ?_
  rintro e w3 ⟨rfl, hb⟩
  have HB3 := Lib.hid (HB2.out.trans (hb.mono HB2.out.size))
  have HG3 := Lib.hid (HG2.out.below hb)
  have HX3 := Lib.hid ((hb.block _ (lt_heap HX2.out)).trans HX2.out)
  clear hb c0 c1 c2 HB2 HG2 HX2
  obtain ⟨c0, c1, c2⟩ := graph_box HX3.out
  clear CF
  obtain ⟨i, hi⟩ : ∃ i, i = x % g.edges.length := ⟨_, rfl⟩
  have hir : (x : Int) % (g.edges.length : Int) = (i : Int) := by rw [hi, Int.natCast_emod]
  have hil : i < g.edges.length := hi ▸ Nat.mod_lt _ (by omega)
  have hbl3 := lt_heap HX3.out
  have HXX := Lib.hid hx
  clear hi hE0 hx
  go_upto_region 7 with fail
  refine nameC fun W4 hW4 => ?_
  have hB4 : Below w3.heap.size w3 W4 := by rw [hW4.out]; exact (Below.refl _ _).alloc (Nat.le_refl _) _
  have hh4 : W4.heap[w3.heap.size]? = some (.cells #[.int .i64 g.left, .int .i64 g.right, .slice Ae g.edges.length de] 24 (0, 0)) := by rw [hW4.out, heap_alloc_if, if_pos rfl]
  obtain ⟨bh, hbh⟩ : ∃ bh, bh = w3.heap.size := ⟨_, rfl⟩
  have hb := hB4
  rw [← hbh] at hh4 hbl3 ⊢
  have HH4 := Lib.hid hh4
  have hbh4 : bh < W4.heap.size := lt_heap hh4
  have HBE := Lib.hid hbh
  clear hW4 hB4 hh4 hbh
  have HB4 := Lib.hid (HB3.out.trans (hb.mono HB3.out.size))
  have HG4 := Lib.hid (HG3.out.below hb)
  have HX4 := Lib.hid ((hb.block _ (lt_heap HX3.out)).trans HX3.out)
  clear hb c0 c1 c2 HB3 HG3 HX3
  obtain ⟨c0, c1, c2⟩ := graph_box HX4.out
  have hw1 : w.heap.size ≠ bh := by omega
  obtain ⟨v3, hve, hed⟩ := id HG4.out
  simp only [Value.agg.injEq, Array.mk.injEq, List.cons.injEq, true_and, and_true] at hve
  subst hve
  obtain ⟨bb, off, rfl⟩ : ∃ bb off, Ae = some ⟨bb, off, none⟩ := by
    obtain ⟨A', c', e, _, _, h3⟩ := hed
    cases e
    obtain ⟨b, o, e, -⟩ := h3 (by omega)
    exact ⟨b, o, e⟩
  have hcap : g.edges.length ≤ de ∧ de ≤ 9223372036854775807 := by
    obtain ⟨A', c', e, h1, h2, _⟩ := hed
    cases e
    exact ⟨h1, h2⟩
  have HT1 := Lib.hid (edges_take hed (Nat.le_of_lt hil))
  have HT2 := Lib.hid (edges_drop (lo := i + 1) (c' := de - (i + 1)) hed (by omega) (by omega) (by omega))
  have HT3 : Hid (i + 1 = de → IsEdges W4 M (.slice (some ⟨bb, off, none⟩) 0 0) (g.edges.drop (i + 1))) := Lib.hid (fun e => by
    rw [List.drop_eq_nil_of_le (by omega)]
    exact ⟨_, 0, rfl, Nat.le_refl _, by omega, fun h => absurd h (by simp)⟩)
  have hlw : w.heap.size < W4.heap.size := lt_heap HX4.out
  obtain ⟨lt, hlt⟩ : ∃ l, l = g.edges.take i := ⟨_, rfl⟩
  obtain ⟨ld, hld⟩ : ∃ l, l = g.edges.drop (i + 1) := ⟨_, rfl⟩
  have HLT := Lib.hid (show lt.length = i by rw [hlt, List.length_take]; omega)
  have HLD := Lib.hid (show ld.length = g.edges.length - (i + 1) by rw [hld, List.length_drop])
  have HDR : Hid (dropE g i = ⟨g.left, g.right, lt ++ ld⟩) := Lib.hid (by rw [hlt, hld]; rfl)
  rw [← hlt] at HT1
  rw [← hld] at HT2 HT3
  have hlen1 : lt.length ≤ 60 := by have := HLT.out; omega
  have hlen2 : ld.length ≤ 60 := by have := HLD.out; omega
  have hi0 : (0 : Int) ≤ (i : Int) := by omega
  have hilI : (i : Int) < (g.edges.length : Int) := by omega
  have hide : (i : Int) ≤ (de : Int) := by omega
  have hide1 : (i : Int) + 1 ≤ (g.edges.length : Int) := by omega
  have hide2 : (i : Int) + 1 ≤ (de : Int) := by omega
  have hw2 : IntKind.i64.wrap ((i : Int) + 1) = (i : Int) + 1 := IntWalk.i64_in _ (by omega)
  have ht1 : ((i : Int) + 1).toNat = i + 1 := by omega
  have hcap1 : g.edges.length ≤ de := hcap.1
  have hcap2 : (g.edges.length : Int) ≤ (de : Int) := by omega
  have hide3 : i + 1 ≤ g.edges.length := by omega
  have hs1 : ¬ (g.edges.length : Int) ≤ (i : Int) := by omega
  have hs2 : ¬ g.edges.length ≤ i := by omega
  have hs3 : ¬ (de : Int) < (g.edges.length : Int) := by omega
  have hs4 : ¬ de < g.edges.length := by omega
  have hs5 : ¬ (g.edges.length : Int) < (i : Int) + 1 := by omega
  have hs6 : (0 : Int) ≤ (i : Int) + 1 := by omega
  have hs7 : ¬ (i : Int) + 1 < 0 := by omega
  have hide4 : i + 1 ≤ de := by omega
  clear hed hlt hld hcap hE1 hE2
  by_cases hd : i + 1 = de
  · have hz : g.edges.length - (i + 1) = 0 := by omega
    have HD3 := Lib.hid (HT3.out hd)
    subst hd
    have hq1 : (i : Int) ≤ (i : Int) + 1 := by omega
    have hq2 : ¬ (i : Int) + 1 < (i : Int) := by omega
    have hq3 : ¬ i + 1 < i := by omega
    have hq4 : (i : Int) ≤ ((i + 1 : Nat) : Int) := by omega
    have hq5 : (i : Int) < (i : Int) + 1 := by omega
    go_region_held3 (fun w' => w'.cell? ⟨w.heap.size, 0, none⟩ = some (.int .i64 g.left) ∧ w'.cell? ⟨w.heap.size, 1, none⟩ = some (.int .i64 g.right) ∧ w'.cell? ⟨w.heap.size, 2, none⟩ = some (.slice (some ⟨bb, off, none⟩) g.edges.length (i + 1))) (first | with_reducible exact ⟨c0, c1, c2⟩ | with_reducible exact ⟨k0, k1, k2⟩ | with_reducible exact ⟨l0, l1, l2⟩ | exact ⟨(cell_off hw1).trans l0, (cell_off hw1).trans l1, (cell_off hw1).trans l2⟩ | go_keep) (first | (refine step_edges W4.heap.size [] lt (v := .slice (some ⟨W4.heap.size, 0, none⟩) 0 0) (vm := .slice (some ⟨bb, off, none⟩) i (i + 1)) (M := M) ?_ ?_ ?_ ?_ rfl (.tmp 30) (.tmp 34) rfl rfl rfl ?_; (focus ((repeat (first | (with_reducible refine World.ownsRow.drew ?_) | (exact own_empty (by rw [heap_alloc_if, if_pos rfl]) (Nat.le_refl _)))); done)); (focus (exact IsSl.below HT1.out (by repeat (first | with_reducible exact Below.refl _ _ | (with_reducible refine Below.drew ?_) | (with_reducible refine Below.alloc ?_ (Nat.le_refl _) _))))); (focus (simp; omega)); (focus (first | exact Nat.le_refl _ | (simp; done) | (simp; omega))); intro A5 c5 w5 H5; have HB5 : Hid (Below W4.heap.size W4 w5) := Below.trans (by repeat (first | with_reducible exact Below.refl _ _ | (with_reducible refine Below.drew ?_) | (with_reducible refine Below.alloc ?_ (Nat.le_refl _) _))) H5.out.2.2; have k0 := (HB5.out.cell (p := ⟨w.heap.size, 0, none⟩) hlw).trans c0; have k1 := (HB5.out.cell (p := ⟨w.heap.size, 1, none⟩) hlw).trans c1; have k2 := (HB5.out.cell (p := ⟨w.heap.size, 2, none⟩) hlw).trans c2; have sz5 := HB5.out.size) | (refine step_edges W4.heap.size lt ld (v := .slice A5 ([] ++ lt).length c5) (vm := .slice (some ⟨bb, off, none⟩) 0 0) (M := M) ?_ ?_ ?_ ?_ rfl (.tmp 35) (.tmp 40) rfl rfl rfl ?_; (focus ((repeat (first | (with_reducible refine World.ownsRow.drew ?_) | exact H5.out.1)); done)); (focus (exact IsSl.below HD3.out (Below.trans HB5.out (by repeat (first | with_reducible exact Below.refl _ _ | (with_reducible refine Below.drew ?_)))))); (focus omega); (focus (first | exact sz5 | (simp; exact sz5))); intro A7 c7 w7 H7; have HB7 : Hid (Below W4.heap.size W4 w7) := HB5.out.trans (Below.trans (by repeat (first | with_reducible exact Below.refl _ _ | (with_reducible refine Below.drew ?_))) H7.out.2.2); have l0 := (HB7.out.cell (p := ⟨w.heap.size, 0, none⟩) hlw).trans c0; have l1 := (HB7.out.cell (p := ⟨w.heap.size, 1, none⟩) hlw).trans c1; have l2 := (HB7.out.cell (p := ⟨w.heap.size, 2, none⟩) hlw).trans c2; have HH7 := Lib.hid ((HB7.out.block bh hbh4).trans HH4.out); have hx7 : w7.cell? ⟨bh, 2, none⟩ = some (.slice (some ⟨bb, off, none⟩) g.edges.length (i + 1)) := cell_of HH7.out rfl; have hf7 : w7.frozen? ⟨bh, 2, none⟩ = false := frz_at HH7.out))
    have HB8 : Hid (Below w.heap.size w (w7.setCell ⟨bh, 2, none⟩ (.slice A7 (lt.length + ld.length) c7))) := Lib.hid ((HB4.out.trans (HB7.out.mono HB4.out.size)).setCell (by show w.heap.size ≤ bh; omega) _)
    have HX8 : Hid ((w7.setCell ⟨bh, 2, none⟩ (.slice A7 (lt.length + ld.length) c7)).heap[w.heap.size]? = some (.cells #[.int .i64 g.left, .int .i64 g.right, .slice (some ⟨bb, off, none⟩) g.edges.length (i + 1)] 24 (0, 0))) := Lib.hid ((Below.heap_setCell _ _ _ _ hw1).trans ((HB7.out.block _ hlw).trans HX4.out))
    have HY8 : Hid ((w7.setCell ⟨bh, 2, none⟩ (.slice A7 (lt.length + ld.length) c7)).heap[bh]? = some (.cells #[.int .i64 g.left, .int .i64 g.right, .slice A7 (lt.length + ld.length) c7] 24 (0, 0))) := Lib.hid (by rw [heap_set_if, if_pos rfl, HH7.out]; rfl)
    have HE8 : Hid (IsEdges (w7.setCell ⟨bh, 2, none⟩ (.slice A7 (lt.length + ld.length) c7)) (fun b => W4.heap.size ≤ b) (.slice A7 (lt.length + ld.length) c7) (lt ++ ld)) := Lib.hid (by
      have := IsEdges.ofOwn H7.out.1
      rw [List.length_append] at this
      exact IsSl.keep this fun p hp _ => World.cell?_of_block (w := w7) (Below.heap_setCell _ _ _ _ (show p.block ≠ bh from fun e => by have h1 : W4.heap.size ≤ p.block := hp; omega)))
    generalize (w7.setCell ⟨bh, 2, none⟩ (.slice A7 (lt.length + ld.length) c7)) = W8 at HB8 HX8 HY8 HE8
    clear H7 H5 HB5 HB7 HH7 hx7 hf7 k0 k1 k2 l0 l1 l2 c0 c1 c2 HX4 HG4 HB4 HT1 HT2 HT3 HD3 HH4 sz5
    obtain ⟨c0, c1, c2⟩ := graph_box HX8.out
    obtain ⟨d0, d1, d2⟩ := graph_box HY8.out
    have HG8 : Hid (IsGraph W8 M (.agg #[.int .i64 g.left, .int .i64 g.right, .slice (some ⟨bb, off, none⟩) g.edges.length (i + 1)]) g) := Lib.hid (HG.out.below HB8.out)
    have HI8 : Hid (IsGraph W8 (fun b => W4.heap.size ≤ b) (.agg #[.int .i64 g.left, .int .i64 g.right, .slice A7 (lt.length + ld.length) c7]) (dropE g i)) := Lib.hid ⟨_, by rw [HDR.out], by rw [HDR.out]; exact HE8.out⟩
    clear HE8
    cases hc : chkB g
    · have C1 := Lib.hid (max_no W8 M _ g HG8.out hc)
      unfold ErrW at C1
      have C2 := fun W hb => Lib.hid (max_weak W _ _ (dropE g i) (HI8.out.below hb))
      clear hc
      go_wp2_with fail
      refine C1.out.mono ?_
      rintro e w9 ⟨rfl, hb9⟩
      have C29 := C2 w9 hb9
      have HB9 := Lib.hid (HB8.out.trans (hb9.mono HB8.out.size))
      obtain ⟨d0, d1, d2⟩ := graph_box ((hb9.block _ (lt_heap HY8.out)).trans HY8.out)
      clear hb9 C1 C2 HX8
      go_wp2_with fail
      refine C29.out.mono ?_
      rintro e w10 ⟨v10, z10, rfl, hb10⟩
      go_wp2_with fail
      go_ret
      exact ⟨rfl, HB9.out.trans (hb10.mono HB9.out.size)⟩
    · obtain ⟨L, R, hg⟩ := gok_of hc
      have HGO := Lib.hid hg
      have HGD := Lib.hid (dropE_ok hg hil)
      have hl512 := hg.l512
      have C1 := Lib.hid (max_yes W8 M _ g HG8.out hc hg)
      have C2 := fun W hb => Lib.hid (max_yes W _ _ (dropE g i) (HI8.out.below hb) (chk_of HGD.out) HGD.out)
      clear hc hg
      go_wp2_with fail
      refine C1.out.mono ?_
      rintro e w9 ⟨v9, lf, rf, rfl, hi9, hf9, hb9⟩
      obtain ⟨A9, d9, rfl⟩ := ints_sl hi9 (n := L) (by simp)
      have C29 := C2 w9 hb9
      have HF9 := Lib.hid hf9
      have HI9 := Lib.hid hi9
      have HB9 := Lib.hid (HB8.out.trans (hb9.mono HB8.out.size))
      obtain ⟨d0, d1, d2⟩ := graph_box ((hb9.block _ (lt_heap HY8.out)).trans HY8.out)
      clear hb9 C1 C2 HX8 hi9 hf9
      go_wp2_with fail
      refine C29.out.mono ?_
      rintro e w10 ⟨v10, lf', rf', rfl, hi10, hf10, hb10⟩
      obtain ⟨A10, d10, rfl⟩ := ints_sl hi10 (n := L) (by simp)
      have CS1 := Lib.hid (size_any w10 _ _ _ hi10)
      have CS2 := Lib.hid (size_any w10 _ _ _ (IsSl.below HI9.out hb10))
      rw [szI_map _ hf10.inv.ll] at CS1
      rw [szI_map _ HF9.out.inv.ll] at CS2
      have hgr := grows HGO.out hil HF9.out hf10
      have hsl := sizeM_le (opt lf) L
      obtain ⟨s1, hs1'⟩ : ∃ s, s = sizeM (opt lf') L := ⟨_, rfl⟩
      obtain ⟨s2, hs2'⟩ : ∃ s, s = sizeM (opt lf) L := ⟨_, rfl⟩
      rw [← hs1'] at CS1 hgr
      rw [← hs2'] at CS2 hgr hsl
      have hg1 : (s1 : Int) ≤ (s2 : Int) := by omega
      have hg2 : (s2 : Int) ≤ (s1 : Int) + 1 := by omega
      have HB10 := Lib.hid (HB9.out.trans (hb10.mono HB9.out.size))
      clear hgr hs1' hs2' hi10 hf10 hb10 C29 d0 d1 d2
      go_wp2_with (first | (with_reducible refine CS1.out.mono ?_; rintro e w' ⟨rfl, rfl⟩) | (with_reducible refine CS2.out.mono ?_; rintro e w' ⟨rfl, rfl⟩))
      go_ret
      exact ⟨rfl, HB10.out⟩
  · have hdn : ¬ de = i + 1 := fun e => hd e.symm
    have hdn2 : ¬ de - (i + 1) = 0 := fun e => hd (by omega)
    go_region_held3 (fun w' => w'.cell? ⟨w.heap.size, 0, none⟩ = some (.int .i64 g.left) ∧ w'.cell? ⟨w.heap.size, 1, none⟩ = some (.int .i64 g.right) ∧ w'.cell? ⟨w.heap.size, 2, none⟩ = some (.slice (some ⟨bb, off, none⟩) g.edges.length de)) (first | with_reducible exact ⟨c0, c1, c2⟩ | with_reducible exact ⟨k0, k1, k2⟩ | with_reducible exact ⟨l0, l1, l2⟩ | exact ⟨(cell_off hw1).trans l0, (cell_off hw1).trans l1, (cell_off hw1).trans l2⟩ | go_keep) (first | (refine step_edges W4.heap.size [] lt (v := .slice (some ⟨W4.heap.size, 0, none⟩) 0 0) (vm := .slice (some ⟨bb, off, none⟩) i de) (M := M) ?_ ?_ ?_ ?_ rfl (.tmp 30) (.tmp 34) rfl rfl rfl ?_; (focus ((repeat (first | (with_reducible refine World.ownsRow.drew ?_) | (exact own_empty (by rw [heap_alloc_if, if_pos rfl]) (Nat.le_refl _)))); done)); (focus (exact IsSl.below HT1.out (by repeat (first | with_reducible exact Below.refl _ _ | (with_reducible refine Below.drew ?_) | (with_reducible refine Below.alloc ?_ (Nat.le_refl _) _))))); (focus (simp; omega)); (focus (first | exact Nat.le_refl _ | (simp; done) | (simp; omega))); intro A5 c5 w5 H5; have HB5 : Hid (Below W4.heap.size W4 w5) := Below.trans (by repeat (first | with_reducible exact Below.refl _ _ | (with_reducible refine Below.drew ?_) | (with_reducible refine Below.alloc ?_ (Nat.le_refl _) _))) H5.out.2.2; have k0 := (HB5.out.cell (p := ⟨w.heap.size, 0, none⟩) hlw).trans c0; have k1 := (HB5.out.cell (p := ⟨w.heap.size, 1, none⟩) hlw).trans c1; have k2 := (HB5.out.cell (p := ⟨w.heap.size, 2, none⟩) hlw).trans c2; have sz5 := HB5.out.size) | (refine step_edges W4.heap.size lt ld (v := .slice A5 ([] ++ lt).length c5) (vm := .slice (some ⟨bb, off + (i + 1) * 2, none⟩) (g.edges.length - (i + 1)) (de - (i + 1))) (M := M) ?_ ?_ ?_ ?_ rfl (.tmp 35) (.tmp 40) rfl rfl rfl ?_; (focus ((repeat (first | (with_reducible refine World.ownsRow.drew ?_) | exact H5.out.1)); done)); (focus (exact IsSl.below HT2.out (Below.trans HB5.out (by repeat (first | with_reducible exact Below.refl _ _ | (with_reducible refine Below.drew ?_)))))); (focus omega); (focus (first | exact sz5 | (simp; exact sz5))); intro A7 c7 w7 H7; have HB7 : Hid (Below W4.heap.size W4 w7) := HB5.out.trans (Below.trans (by repeat (first | with_reducible exact Below.refl _ _ | (with_reducible refine Below.drew ?_))) H7.out.2.2); have l0 := (HB7.out.cell (p := ⟨w.heap.size, 0, none⟩) hlw).trans c0; have l1 := (HB7.out.cell (p := ⟨w.heap.size, 1, none⟩) hlw).trans c1; have l2 := (HB7.out.cell (p := ⟨w.heap.size, 2, none⟩) hlw).trans c2; have HH7 := Lib.hid ((HB7.out.block bh hbh4).trans HH4.out); have hx7 : w7.cell? ⟨bh, 2, none⟩ = some (.slice (some ⟨bb, off, none⟩) g.edges.length de) := cell_of HH7.out rfl; have hf7 : w7.frozen? ⟨bh, 2, none⟩ = false := frz_at HH7.out))
    have HB8 : Hid (Below w.heap.size w (w7.setCell ⟨bh, 2, none⟩ (.slice A7 (lt.length + ld.length) c7))) := Lib.hid ((HB4.out.trans (HB7.out.mono HB4.out.size)).setCell (by show w.heap.size ≤ bh; omega) _)
    have HX8 : Hid ((w7.setCell ⟨bh, 2, none⟩ (.slice A7 (lt.length + ld.length) c7)).heap[w.heap.size]? = some (.cells #[.int .i64 g.left, .int .i64 g.right, .slice (some ⟨bb, off, none⟩) g.edges.length de] 24 (0, 0))) := Lib.hid ((Below.heap_setCell _ _ _ _ hw1).trans ((HB7.out.block _ hlw).trans HX4.out))
    have HY8 : Hid ((w7.setCell ⟨bh, 2, none⟩ (.slice A7 (lt.length + ld.length) c7)).heap[bh]? = some (.cells #[.int .i64 g.left, .int .i64 g.right, .slice A7 (lt.length + ld.length) c7] 24 (0, 0))) := Lib.hid (by rw [heap_set_if, if_pos rfl, HH7.out]; rfl)
    have HE8 : Hid (IsEdges (w7.setCell ⟨bh, 2, none⟩ (.slice A7 (lt.length + ld.length) c7)) (fun b => W4.heap.size ≤ b) (.slice A7 (lt.length + ld.length) c7) (lt ++ ld)) := Lib.hid (by
      have := IsEdges.ofOwn H7.out.1
      rw [List.length_append] at this
      exact IsSl.keep this fun p hp _ => World.cell?_of_block (w := w7) (Below.heap_setCell _ _ _ _ (show p.block ≠ bh from fun e => by have h1 : W4.heap.size ≤ p.block := hp; omega)))
    generalize (w7.setCell ⟨bh, 2, none⟩ (.slice A7 (lt.length + ld.length) c7)) = W8 at HB8 HX8 HY8 HE8
    clear H7 H5 HB5 HB7 HH7 hx7 hf7 k0 k1 k2 l0 l1 l2 c0 c1 c2 HX4 HG4 HB4 HT1 HT2 HT3 HH4 sz5
    obtain ⟨c0, c1, c2⟩ := graph_box HX8.out
    obtain ⟨d0, d1, d2⟩ := graph_box HY8.out
    have HG8 : Hid (IsGraph W8 M (.agg #[.int .i64 g.left, .int .i64 g.right, .slice (some ⟨bb, off, none⟩) g.edges.length de]) g) := Lib.hid (HG.out.below HB8.out)
    have HI8 : Hid (IsGraph W8 (fun b => W4.heap.size ≤ b) (.agg #[.int .i64 g.left, .int .i64 g.right, .slice A7 (lt.length + ld.length) c7]) (dropE g i)) := Lib.hid ⟨_, by rw [HDR.out], by rw [HDR.out]; exact HE8.out⟩
    clear HE8
    cases hc : chkB g
    · have C1 := Lib.hid (max_no W8 M _ g HG8.out hc)
      unfold ErrW at C1
      have C2 := fun W hb => Lib.hid (max_weak W _ _ (dropE g i) (HI8.out.below hb))
      clear hc
      go_wp2_with fail
      refine C1.out.mono ?_
      rintro e w9 ⟨rfl, hb9⟩
      have C29 := C2 w9 hb9
      have HB9 := Lib.hid (HB8.out.trans (hb9.mono HB8.out.size))
      obtain ⟨d0, d1, d2⟩ := graph_box ((hb9.block _ (lt_heap HY8.out)).trans HY8.out)
      clear hb9 C1 C2 HX8
      go_wp2_with fail
      refine C29.out.mono ?_
      rintro e w10 ⟨v10, z10, rfl, hb10⟩
      go_wp2_with fail
      go_ret
      exact ⟨rfl, HB9.out.trans (hb10.mono HB9.out.size)⟩
    · obtain ⟨L, R, hg⟩ := gok_of hc
      have HGO := Lib.hid hg
      have HGD := Lib.hid (dropE_ok hg hil)
      have hl512 := hg.l512
      have C1 := Lib.hid (max_yes W8 M _ g HG8.out hc hg)
      have C2 := fun W hb => Lib.hid (max_yes W _ _ (dropE g i) (HI8.out.below hb) (chk_of HGD.out) HGD.out)
      clear hc hg
      go_wp2_with fail
      refine C1.out.mono ?_
      rintro e w9 ⟨v9, lf, rf, rfl, hi9, hf9, hb9⟩
      obtain ⟨A9, d9, rfl⟩ := ints_sl hi9 (n := L) (by simp)
      have C29 := C2 w9 hb9
      have HF9 := Lib.hid hf9
      have HI9 := Lib.hid hi9
      have HB9 := Lib.hid (HB8.out.trans (hb9.mono HB8.out.size))
      obtain ⟨d0, d1, d2⟩ := graph_box ((hb9.block _ (lt_heap HY8.out)).trans HY8.out)
      clear hb9 C1 C2 HX8 hi9 hf9
      go_wp2_with fail
      refine C29.out.mono ?_
      rintro e w10 ⟨v10, lf', rf', rfl, hi10, hf10, hb10⟩
      obtain ⟨A10, d10, rfl⟩ := ints_sl hi10 (n := L) (by simp)
      have CS1 := Lib.hid (size_any w10 _ _ _ hi10)
      have CS2 := Lib.hid (size_any w10 _ _ _ (IsSl.below HI9.out hb10))
      rw [szI_map _ hf10.inv.ll] at CS1
      rw [szI_map _ HF9.out.inv.ll] at CS2
      have hgr := grows HGO.out hil HF9.out hf10
      have hsl := sizeM_le (opt lf) L
      obtain ⟨s1, hs1'⟩ : ∃ s, s = sizeM (opt lf') L := ⟨_, rfl⟩
      obtain ⟨s2, hs2'⟩ : ∃ s, s = sizeM (opt lf) L := ⟨_, rfl⟩
      rw [← hs1'] at CS1 hgr
      rw [← hs2'] at CS2 hgr hsl
      have hg1 : (s1 : Int) ≤ (s2 : Int) := by omega
      have hg2 : (s2 : Int) ≤ (s1 : Int) + 1 := by omega
      have HB10 := Lib.hid (HB9.out.trans (hb10.mono HB9.out.size))
      clear hgr hs1' hs2' hi10 hf10 hb10 C29 d0 d1 d2
      go_wp2_with (first | (with_reducible refine CS1.out.mono ?_; rintro e w' ⟨rfl, rfl⟩) | (with_reducible refine CS2.out.mono ?_; rintro e w' ⟨rfl, rfl⟩))
      go_ret
      exact ⟨rfl, HB10.out⟩
end Go.Proofs.Ytolappaekjdcgaa
