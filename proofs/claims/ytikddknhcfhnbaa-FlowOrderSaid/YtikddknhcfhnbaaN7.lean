/- The law FlowOrder. -/
import Derived.Test.YtikddknhcfhnbaaF8
import Derived.Test.YtikddknhcfhnbaaN2
namespace Go.Proofs.Ytikddknhcfhnbaa
open Go.RowKit Go.Deep
theorem u64_nat (x : Int) : ∃ t : Nat, IntKind.u64.wrap x = (t : Int) ∧ t < 18446744073709551616 := by
  refine ⟨(x % 18446744073709551616).toNat, ?_, ?_⟩
  · rw [IntKind.wrap_u64]; omega
  · omega
set_option maxHeartbeats 4000000 in
set_option maxRecDepth 100000 in
theorem law7 (w : World) (M : Nat → Prop) (v : Value) (n : NetD) (h : IsNet w M v n) (x1 x2 : Int) :
    Calls Try.prog 7 #[v, .int .i64 x1, .int .i64 x2] w fun e w' => e = .returned (.bool true) ∧ Below w.heap.size w w' := by
  have HG := Lib.hid h
  obtain ⟨va, rfl, hva⟩ := id h
  obtain ⟨A, c, rfl, -⟩ := id hva
  clear h hva
  go_enter Try.func7, Try.ntmps7
  go_wp2_with fail
  refine nameW fun W1 hW1 => ?_
  have hB1 : Below w.heap.size w W1 := by rw [hW1.out]; exact (Below.refl w.heap.size w).alloc (Nat.le_refl _) _
  have hb1 : W1.heap[w.heap.size]? = some (.cells #[.int .i64 n.vs, .slice A n.arcs.length c] 24 (0, 0)) := by rw [hW1.out, heap_alloc_if, if_pos rfl]
  clear hW1
  refine (sane_any W1).mono ?_
  rintro e w2 ⟨rfl, hb⟩
  have hX2 := (hb.block _ (lt_heap hb1)).trans hb1
  have HX2 := Lib.hid hX2
  have HB2 := Lib.hid (hB1.trans (hb.mono hB1.size))
  have HG2 := Lib.hid (HG.out.below HB2.out)
  have hbl := lt_heap HX2.out
  have c0 : w2.cell? ⟨w.heap.size, 0, none⟩ = some (.int .i64 n.vs) := cell_of hX2 rfl
  have c1 : w2.cell? ⟨w.heap.size, 1, none⟩ = some (.slice A n.arcs.length c) := cell_of hX2 rfl
  clear hb hb1 hB1 hX2
  by_cases hv60 : (60 : Int) < n.vs
  · go_wp2_with fail
    go_ret
    exact ⟨rfl, HB2.out⟩
  by_cases ha300 : (300 : Int) < (n.arcs.length : Int)
  · go_wp2_with fail
    go_ret
    exact ⟨rfl, HB2.out⟩
  have hv60d : decide ((60 : Int) < n.vs) = false := decide_eq_false hv60
  have ha300d : decide ((300 : Int) < (n.arcs.length : Int)) = false := decide_eq_false ha300
  by_cases hm0 : n.arcs.length = 0
  · have hE1 : ((n.arcs.length : Int) == 0) = true := by rw [hm0]; rfl
    clear hm0
    go_wp2_with fail
    go_ret
    exact ⟨rfl, HB2.out⟩
  have hE1 : ((n.arcs.length : Int) == 0) = false := by rw [beq_eq_false_iff_ne]; omega
  have hE2 : ¬ (n.arcs.length : Int) = 0 := by omega
  cases hch : chkN n
  · have hcz := chkF_no hch
    have CC := fcheck_any w2 _ _ n HG2.out
    rw [hcz] at CC
    clear hcz
    go_wp2_with fail
    refine CC.mono ?_
    rintro e w3 ⟨rfl, hb⟩
    go_wp2_with fail
    go_ret
    exact ⟨rfl, HB2.out.trans (hb.mono HB2.out.size)⟩
  have hcz := chkF_yes hch
  have HCH := Lib.hid hch
  clear hch
  have CC := fcheck_any w2 _ _ n HG2.out
  rw [hcz] at CC
  go_wp2_with fail
  refine CC.mono ?_
  rintro e w3 ⟨rfl, hb⟩
  have HB3 := Lib.hid (HB2.out.trans (hb.mono HB2.out.size))
  have hX3 := (hb.block _ hbl).trans HX2.out
  have HX3 := Lib.hid hX3
  have HG3 := Lib.hid (HG2.out.below hb)
  replace hbl := lt_heap HX3.out
  replace c0 : w3.cell? ⟨w.heap.size, 0, none⟩ = some (.int .i64 n.vs) := cell_of hX3 rfl
  replace c1 : w3.cell? ⟨w.heap.size, 1, none⟩ = some (.slice A n.arcs.length c) := cell_of hX3 rfl
  clear hb hX3 CC
  clear hcz hE1
  obtain ⟨tu, htu, htl⟩ := u64_nat x1
  obtain ⟨k, hk⟩ : ∃ k, k = tu % n.arcs.length := ⟨_, rfl⟩
  have hkl : k < n.arcs.length := hk ▸ Nat.mod_lt _ (by omega)
  have hlu : IntKind.u64.wrap (n.arcs.length : Int) = (n.arcs.length : Int) := by rw [IntKind.wrap_u64]; omega
  have hmod : (tu : Int) % (n.arcs.length : Int) = (k : Int) := by rw [hk, Int.natCast_emod]
  have htm : Int.tmod (tu : Int) (n.arcs.length : Int) = (k : Int) := by rw [Int.tmod_eq_emod_of_nonneg (by omega)]; exact hmod
  have HTL := Lib.hid htl
  clear hk htl
  have hkI : (k : Int) < (n.arcs.length : Int) := by omega
  have hk0 : (0 : Int) ≤ (k : Int) := by omega
  obtain ⟨ba, off, rfl, hba, e0, e1, e2⟩ := (net_arcs HG.out).at_ HB3.out hkl
  have hcap := cap_ok HCH.out hkl
  obtain ⟨⟨s, d, x⟩, hsx⟩ : ∃ a, a = nthA n.arcs k := ⟨_, rfl⟩
  rw [← hsx] at e0 e1 e2 hcap
  dsimp only at e0 e1 e2 hcap
  have HSX := Lib.hid hsx
  have HHL := Lib.hid hkl
  clear hsx
  go_upto_region 6 with fail
  go_cut [8, 9] (fun q8 q9 wx => ∃ b8 b9, q8 = .pointer (some ⟨b8, 0, none⟩) ∧ q9 = .pointer (some ⟨b9, 0, none⟩) ∧ Hid (Two w3 wx b8 b9 ⟨s, d, x⟩ ⟨s, d, x⟩) ∧ Hid (Below w3.heap.size w3 wx))
  case first =>
    go_region_held3 (fun w' => w'.cell? ⟨w.heap.size, 1, none⟩ = some (.slice (some ⟨ba, off, none⟩) n.arcs.length c) ∧ w'.cell? ⟨ba, off + k * 3, none⟩ = some (.int .i64 s) ∧ w'.cell? ⟨ba, off + k * 3 + 1, none⟩ = some (.int .i64 d) ∧ w'.cell? ⟨ba, off + k * 3 + 2, none⟩ = some (.int .i64 x)) (first | with_reducible exact ⟨c1, e0, e1, e2⟩ | go_keep) (fail)
    · go_wp2_with fail
      go_meet
      case rel => exact ⟨w3.heap.size, w3.heap.size + 1, rfl, rfl, Lib.hid ⟨by show ((w3.alloc _).alloc _).heap[_]? = _; rw [heap_alloc_if, if_neg (by simp), heap_alloc_if, if_pos rfl], by show ((w3.alloc _).alloc _).heap[_]? = _; rw [heap_alloc_if, if_pos (by simp)], by omega, Nat.le_refl _, by omega⟩, Lib.hid (((Below.refl _ _).alloc (Nat.le_refl _) _).alloc (by simp) _).drew⟩
    · go_wp2_with fail
      go_meet
      case rel => exact ⟨w3.heap.size + 1, w3.heap.size, rfl, rfl, Lib.hid ⟨by show ((w3.alloc _).alloc _).heap[_]? = _; rw [heap_alloc_if, if_pos (by simp)], by show ((w3.alloc _).alloc _).heap[_]? = _; rw [heap_alloc_if, if_neg (by simp), heap_alloc_if, if_pos rfl], by omega, by omega, Nat.le_refl _⟩, Lib.hid (((Below.refl _ _).alloc (Nat.le_refl _) _).alloc (by simp) _).drew⟩
  case rest =>
  obtain ⟨b8, b9, rfl, rfl, HT4, hb4⟩ := hcut
  obtain ⟨w4, rfl⟩ : ∃ W, W = wc := ⟨_, rfl⟩
  have hb4 := hb4.out
  have HB4 := Lib.hid (HB3.out.trans (hb4.mono HB3.out.size))
  have hX4 := (hb4.block _ hbl).trans HX3.out
  have HX4 := Lib.hid hX4
  have hwl : w.heap.size < w3.heap.size := hbl
  have hba4 : ba < w4.heap.size := Nat.lt_of_lt_of_le (Nat.lt_of_lt_of_le hba HB3.out.size) hb4.size
  have hbl3 : w.heap.size ≤ w3.heap.size := Nat.le_of_lt hbl
  have e2 := (hb4.cell (p := ⟨ba, off + k * 3 + 2, none⟩) (Nat.lt_of_lt_of_le hba HB3.out.size)).trans e2
  have hb8l := lt_heap HT4.out.1
  have hb9l := lt_heap HT4.out.2.1
  have hne89 := HT4.out.2.2.1
  have hw8 := HT4.out.2.2.2.1
  have hw9 := HT4.out.2.2.2.2
  have x80 : w4.cell? ⟨b8, 0, none⟩ = some (.int .i64 s) := cell_of HT4.out.1 rfl
  have x82 : w4.cell? ⟨b8, 2, none⟩ = some (.int .i64 x) := cell_of HT4.out.1 rfl
  have x92 : w4.cell? ⟨b9, 2, none⟩ = some (.int .i64 x) := cell_of HT4.out.2.1 rfl
  have f8 : w4.frozen? ⟨b8, 2, none⟩ = false := frz_at HT4.out.1
  have f9 : w4.frozen? ⟨b9, 2, none⟩ = false := frz_at HT4.out.2.1
  replace hbl := lt_heap hX4
  replace c1 : w4.cell? ⟨w.heap.size, 1, none⟩ = some (.slice (some ⟨ba, off, none⟩) n.arcs.length c) := cell_of hX4 rfl
  have hx0 : ¬ x < 0 := by omega
  obtain ⟨tp, htp, htpl⟩ := u64_nat x2
  obtain ⟨z, hz⟩ : ∃ z, z = tp % (x.toNat + 1) := ⟨_, rfl⟩
  have hzx : (z : Int) ≤ x := by have := Nat.mod_lt tp (show 0 < x.toNat + 1 by omega); omega
  have hx1 : IntKind.i64.wrap (x + 1) = x + 1 := IntWalk.i64_in _ (by omega)
  have hxu : IntKind.u64.wrap (x + 1) = x + 1 := by rw [IntKind.wrap_u64]; omega
  have hx1n : ¬ x + 1 = 0 := by omega
  have hzm : (tp : Int) % (x + 1) = (z : Int) := by rw [hz, Int.natCast_emod]; congr 1; omega
  have hzt : Int.tmod (tp : Int) (x + 1) = (z : Int) := by rw [Int.tmod_eq_emod_of_nonneg (by omega)]; exact hzm
  have hzw : IntKind.i64.wrap (z : Int) = (z : Int) := IntWalk.i64_in _ (by omega)
  have hxz : IntKind.i64.wrap (x - (z : Int)) = x - (z : Int) := IntWalk.i64_in _ (by omega)
  have HZX := Lib.hid hzx
  clear hb4 hX4 e0 e1 HB3 HX3 HG3 hz htpl c0
  go_upto_region 11 with fail
  refine nameC fun W5 hW5 => ?_
  have HT5 : Hid (Two w3 W5 b8 b9 ⟨s, d, (z : Int)⟩ ⟨s, d, x - (z : Int)⟩) := Lib.hid (by
    have h := HT4.out
    refine ⟨?_, ?_, h.2.2⟩
    · rw [hW5.out, heap_set_if, if_neg h.2.2.1, heap_set_if, if_pos rfl, h.1]; rfl
    · rw [hW5.out, heap_set_if, if_pos rfl, heap_set_if, if_neg (fun e => h.2.2.1 e.symm), h.2.1]; rfl)
  have HB5 : Hid (Below w.heap.size w W5) := Lib.hid (by rw [hW5.out]; exact (HB4.out.setCell (by show w.heap.size ≤ b8; omega) _).setCell (by show w.heap.size ≤ b9; omega) _)
  have hX5 : W5.heap[w.heap.size]? = some (.cells #[.int .i64 n.vs, .slice (some ⟨ba, off, none⟩) n.arcs.length c] 24 (0, 0)) := by rw [hW5.out, heap_set_if, if_neg (by omega), heap_set_if, if_neg (by omega)]; exact HX4.out
  have HX5 := Lib.hid hX5
  have hA5 := net_arcs (HG.out.below HB5.out)
  have hcap2 : n.arcs.length ≤ c ∧ c ≤ 9223372036854775807 := by obtain ⟨A', c', e, h1, h2, -⟩ := id hA5; cases e; exact ⟨h1, h2⟩
  have HT1 := Lib.hid (arcs_take hA5 (Nat.le_of_lt HHL.out))
  have HT2 := Lib.hid (arcs_drop (lo := k + 1) (c' := c - (k + 1)) hA5 (by omega) (by omega) (by omega))
  have HT3 : Hid (k + 1 = c → IsArcs W5 M (.slice (some ⟨ba, off, none⟩) 0 0) (n.arcs.drop (k + 1))) := Lib.hid (fun e => by
    rw [List.drop_eq_nil_of_le (by omega)]
    exact ⟨_, 0, rfl, Nat.le_refl _, by omega, fun h => absurd h (by simp)⟩)
  obtain ⟨lt, hlt⟩ : ∃ l, l = n.arcs.take k := ⟨_, rfl⟩
  obtain ⟨ld, hld⟩ : ∃ l, l = n.arcs.drop (k + 1) := ⟨_, rfl⟩
  have HLT := Lib.hid (show lt.length = k by rw [hlt, List.length_take]; omega)
  have HLD := Lib.hid (show ld.length = n.arcs.length - (k + 1) by rw [hld, List.length_drop])
  have HDR : Hid (turnL n.arcs k (z : Int) = (([⟨s, d, x - (z : Int)⟩] : List ArcD) ++ ld ++ lt) ++ [⟨s, d, (z : Int)⟩]) := Lib.hid (by rw [hlt, hld]; unfold turnL; rw [← HSX.out])
  rw [← hlt] at HT1
  rw [← hld] at HT2 HT3
  have hlen1 : lt.length ≤ 300 := by have := HLT.out; omega
  have hlen2 : ld.length ≤ 300 := by have := HLD.out; omega
  have c1 : W5.cell? ⟨w.heap.size, 1, none⟩ = some (.slice (some ⟨ba, off, none⟩) n.arcs.length c) := cell_of hX5 rfl
  have y0 : W5.cell? ⟨b9, 0, none⟩ = some (.int .i64 s) := cell_of HT5.out.2.1 rfl
  have y1 : W5.cell? ⟨b9, 1, none⟩ = some (.int .i64 d) := cell_of HT5.out.2.1 rfl
  have y2 : W5.cell? ⟨b9, 2, none⟩ = some (.int .i64 (x - (z : Int))) := cell_of HT5.out.2.1 rfl
  have hb5 := lt_heap hX5
  have hb9' := lt_heap HT5.out.2.1
  have hide : (k : Int) ≤ (c : Int) := by omega
  have hide1 : (k : Int) + 1 ≤ (n.arcs.length : Int) := by omega
  have hide2 : (k : Int) + 1 ≤ (c : Int) := by omega
  have hw2 : IntKind.i64.wrap ((k : Int) + 1) = (k : Int) + 1 := IntWalk.i64_in _ (by omega)
  have ht1 : ((k : Int) + 1).toNat = k + 1 := by omega
  have hcap1 : n.arcs.length ≤ c := hcap2.1
  have hcapI : (n.arcs.length : Int) ≤ (c : Int) := by omega
  have hide3 : k + 1 ≤ n.arcs.length := by omega
  have hs1 : ¬ (n.arcs.length : Int) ≤ (k : Int) := by omega
  have hs2 : ¬ n.arcs.length ≤ k := by omega
  have hs3 : ¬ (c : Int) < (n.arcs.length : Int) := by omega
  have hs4 : ¬ c < n.arcs.length := by omega
  have hs5 : ¬ (n.arcs.length : Int) < (k : Int) + 1 := by omega
  have hs6 : (0 : Int) ≤ (k : Int) + 1 := by omega
  have hs7 : ¬ (k : Int) + 1 < 0 := by omega
  have hide4 : k + 1 ≤ c := by omega
  clear hW5 hX5 hA5 hlt hld hcap2 HT4 HB4 HX4 x80 x82 x92 f8 f9 e2 hba4 hb8l hb9l hx0 hzx hx1 hxu hx1n hzm hzt hzw hxz hwl htp hE2 hm0
  go_cut [10] (fun q wx => ∃ A7 d7, q = .slice A7 ((([⟨s, d, x - (z : Int)⟩] : List ArcD) ++ ld).length + lt.length) d7 ∧ Hid (wx.ownsRow W5.heap.size 45 3 (.slice A7 ((([⟨s, d, x - (z : Int)⟩] : List ArcD) ++ ld).length + lt.length) d7) (([⟨s, d, x - (z : Int)⟩] : List ArcD) ++ ld ++ lt).length (arcL (([⟨s, d, x - (z : Int)⟩] : List ArcD) ++ ld ++ lt))) ∧ Hid (Below W5.heap.size W5 wx))
  case first =>
    by_cases hdc : k + 1 = c
    · have hzz : n.arcs.length - (k + 1) = 0 := by omega
      have HD3 := Lib.hid (HT3.out hdc)
      subst hdc
      have hq1 : (k : Int) ≤ (k : Int) + 1 := by omega
      have hq2 : ¬ (k : Int) + 1 < (k : Int) := by omega
      have hq3 : ¬ k + 1 < k := by omega
      have hq4 : (k : Int) ≤ ((k + 1 : Nat) : Int) := by omega
      have hq5 : (k : Int) < (k : Int) + 1 := by omega
      go_region_held3 (fun w' => w'.cell? ⟨w.heap.size, 1, none⟩ = some (.slice (some ⟨ba, off, none⟩) n.arcs.length (k + 1)) ∧ w'.cell? ⟨b9, 0, none⟩ = some (.int .i64 s) ∧ w'.cell? ⟨b9, 1, none⟩ = some (.int .i64 d) ∧ w'.cell? ⟨b9, 2, none⟩ = some (.int .i64 (x - (z : Int)))) (first | with_reducible exact ⟨c1, y0, y1, y2⟩ | with_reducible exact ⟨k0, k1, k2, k3⟩ | with_reducible exact ⟨l0, l1, l2, l3⟩ | go_keep) (first | (refine step_arcs W5.heap.size ([⟨s, d, x - (z : Int)⟩] : List ArcD) ld (v := .slice (some ⟨W5.heap.size, 0, none⟩) 1 1) (A := some ⟨ba, off, none⟩) (n := 0) (c := 0) (M := M) ?_ ?_ ?_ ?_ rfl (.tmp 82) (.tmp 87) rfl rfl rfl ?_; (focus ((repeat (first | (with_reducible refine World.ownsRow.drew ?_) | (exact own_arc1 (by rw [heap_alloc_if, if_pos rfl]) (Nat.le_refl _)))); done)); (focus (exact IsSl.below HD3.out (by repeat (first | with_reducible exact Below.refl _ _ | (with_reducible refine Below.drew ?_) | (with_reducible refine Below.alloc ?_ (Nat.le_refl _) _))))); (focus (simp; omega)); (focus (first | exact Nat.le_refl _ | (simp; done) | (simp; omega))); intro A5 d5 w5 H5; have HB6 : Hid (Below W5.heap.size W5 w5) := Below.trans (by repeat (first | with_reducible exact Below.refl _ _ | (with_reducible refine Below.drew ?_) | (with_reducible refine Below.alloc ?_ (Nat.le_refl _) _))) H5.out.2.2; have k0 := (HB6.out.cell (p := ⟨w.heap.size, 1, none⟩) hb5).trans c1; have k1 := (HB6.out.cell (p := ⟨b9, 0, none⟩) hb9').trans y0; have k2 := (HB6.out.cell (p := ⟨b9, 1, none⟩) hb9').trans y1; have k3 := (HB6.out.cell (p := ⟨b9, 2, none⟩) hb9').trans y2; have sz5 := HB6.out.size) | (refine step_arcs W5.heap.size (([⟨s, d, x - (z : Int)⟩] : List ArcD) ++ ld) lt (v := .slice A5 (([⟨s, d, x - (z : Int)⟩] : List ArcD).length + ld.length) d5) (A := some ⟨ba, off, none⟩) (n := k) (c := k + 1) (M := M) ?_ ?_ ?_ ?_ rfl (.tmp 88) (.tmp 92) rfl rfl rfl ?_; (focus ((repeat (first | (with_reducible refine World.ownsRow.drew ?_) | exact H5.out.1)); done)); (focus (exact IsSl.below HT1.out (Below.trans HB6.out (by repeat (first | with_reducible exact Below.refl _ _ | (with_reducible refine Below.drew ?_)))))); (focus (simp; omega)); (focus (first | exact sz5 | (simp; exact sz5))); intro A7 d7 w7 H7; have HB7 : Hid (Below W5.heap.size W5 w7) := HB6.out.trans (Below.trans (by repeat (first | with_reducible exact Below.refl _ _ | (with_reducible refine Below.drew ?_))) H7.out.2.2); have l0 := (HB7.out.cell (p := ⟨w.heap.size, 1, none⟩) hb5).trans c1; have l1 := (HB7.out.cell (p := ⟨b9, 0, none⟩) hb9').trans y0; have l2 := (HB7.out.cell (p := ⟨b9, 1, none⟩) hb9').trans y1; have l3 := (HB7.out.cell (p := ⟨b9, 2, none⟩) hb9').trans y2))
      all_goals
        go_wp2_with fail
        go_meet
        case rel => exact ⟨A7, d7, rfl, Lib.hid H7.out.1, HB7⟩
    · have hdn : ¬ c = k + 1 := fun e => hdc e.symm
      have hdn2 : ¬ c - (k + 1) = 0 := fun e => hdc (by omega)
      go_region_held3 (fun w' => w'.cell? ⟨w.heap.size, 1, none⟩ = some (.slice (some ⟨ba, off, none⟩) n.arcs.length c) ∧ w'.cell? ⟨b9, 0, none⟩ = some (.int .i64 s) ∧ w'.cell? ⟨b9, 1, none⟩ = some (.int .i64 d) ∧ w'.cell? ⟨b9, 2, none⟩ = some (.int .i64 (x - (z : Int)))) (first | with_reducible exact ⟨c1, y0, y1, y2⟩ | with_reducible exact ⟨k0, k1, k2, k3⟩ | with_reducible exact ⟨l0, l1, l2, l3⟩ | go_keep) (first | (refine step_arcs W5.heap.size ([⟨s, d, x - (z : Int)⟩] : List ArcD) ld (v := .slice (some ⟨W5.heap.size, 0, none⟩) 1 1) (A := some ⟨ba, off + (k + 1) * 3, none⟩) (n := n.arcs.length - (k + 1)) (c := c - (k + 1)) (M := M) ?_ ?_ ?_ ?_ rfl (.tmp 82) (.tmp 87) rfl rfl rfl ?_; (focus ((repeat (first | (with_reducible refine World.ownsRow.drew ?_) | (exact own_arc1 (by rw [heap_alloc_if, if_pos rfl]) (Nat.le_refl _)))); done)); (focus (exact IsSl.below HT2.out (by repeat (first | with_reducible exact Below.refl _ _ | (with_reducible refine Below.drew ?_) | (with_reducible refine Below.alloc ?_ (Nat.le_refl _) _))))); (focus (simp; omega)); (focus (first | exact Nat.le_refl _ | (simp; done) | (simp; omega))); intro A5 d5 w5 H5; have HB6 : Hid (Below W5.heap.size W5 w5) := Below.trans (by repeat (first | with_reducible exact Below.refl _ _ | (with_reducible refine Below.drew ?_) | (with_reducible refine Below.alloc ?_ (Nat.le_refl _) _))) H5.out.2.2; have k0 := (HB6.out.cell (p := ⟨w.heap.size, 1, none⟩) hb5).trans c1; have k1 := (HB6.out.cell (p := ⟨b9, 0, none⟩) hb9').trans y0; have k2 := (HB6.out.cell (p := ⟨b9, 1, none⟩) hb9').trans y1; have k3 := (HB6.out.cell (p := ⟨b9, 2, none⟩) hb9').trans y2; have sz5 := HB6.out.size) | (refine step_arcs W5.heap.size (([⟨s, d, x - (z : Int)⟩] : List ArcD) ++ ld) lt (v := .slice A5 (([⟨s, d, x - (z : Int)⟩] : List ArcD).length + ld.length) d5) (A := some ⟨ba, off, none⟩) (n := k) (c := c) (M := M) ?_ ?_ ?_ ?_ rfl (.tmp 88) (.tmp 92) rfl rfl rfl ?_; (focus ((repeat (first | (with_reducible refine World.ownsRow.drew ?_) | exact H5.out.1)); done)); (focus (exact IsSl.below HT1.out (Below.trans HB6.out (by repeat (first | with_reducible exact Below.refl _ _ | (with_reducible refine Below.drew ?_)))))); (focus (simp; omega)); (focus (first | exact sz5 | (simp; exact sz5))); intro A7 d7 w7 H7; have HB7 : Hid (Below W5.heap.size W5 w7) := HB6.out.trans (Below.trans (by repeat (first | with_reducible exact Below.refl _ _ | (with_reducible refine Below.drew ?_))) H7.out.2.2); have l0 := (HB7.out.cell (p := ⟨w.heap.size, 1, none⟩) hb5).trans c1; have l1 := (HB7.out.cell (p := ⟨b9, 0, none⟩) hb9').trans y0; have l2 := (HB7.out.cell (p := ⟨b9, 1, none⟩) hb9').trans y1; have l3 := (HB7.out.cell (p := ⟨b9, 2, none⟩) hb9').trans y2))
      all_goals
        go_wp2_with fail
        go_meet
        case rel => exact ⟨A7, d7, rfl, Lib.hid H7.out.1, HB7⟩
  case rest =>
  obtain ⟨A7, d7, rfl, HO7, HB7w⟩ := hcut
  obtain ⟨w7, rfl⟩ : ∃ W, W = wc := ⟨_, rfl⟩
  obtain ⟨l1, hl1⟩ : ∃ l, l = ([⟨s, d, x - (z : Int)⟩] : List ArcD) ++ ld ++ lt := ⟨_, rfl⟩
  have hll : (([⟨s, d, x - (z : Int)⟩] : List ArcD) ++ ld).length + lt.length = l1.length := by rw [hl1, List.length_append (bs := lt)]
  rw [hll] at HO7 ⊢
  rw [← hl1] at HO7 HDR
  have hl1l : l1.length ≤ 700 := by rw [← hll]; simp; omega
  have hwW : w.heap.size < W5.heap.size := hb5
  have hb8W : b8 < W5.heap.size := lt_heap HT5.out.1
  have hwW' : w.heap.size ≤ W5.heap.size := Nat.le_of_lt hb5
  have HB7 := Lib.hid (HB5.out.trans (HB7w.out.mono hwW'))
  have hX7 := (HB7w.out.block _ hwW).trans HX5.out
  have hT7 := (HB7w.out.block _ hb8W).trans HT5.out.1
  have HT7 := Lib.hid hT7
  have HX7 := Lib.hid hX7
  have HG7 := Lib.hid (HG.out.below HB7.out)
  have HCT : Hid (chkN ⟨n.vs, turnL n.arcs k (z : Int)⟩ = true) := Lib.hid (turn_chk HCH.out hkl (by omega) (by rw [← HSX.out]; exact HZX.out) (by omega))
  have c0 : w7.cell? ⟨w.heap.size, 0, none⟩ = some (.int .i64 n.vs) := cell_of hX7 rfl
  replace c1 : w7.cell? ⟨w.heap.size, 1, none⟩ = some (.slice (some ⟨ba, off, none⟩) n.arcs.length c) := cell_of hX7 rfl
  have hsz7 := HB7w.out.size
  have HA7 : Hid (∀ b, (Value.slice A7 l1.length d7).ownBlock = some b → b < w7.heap.size) := Lib.hid fun b hb => (own_lt HO7.out b hb).2
  clear hl1 hll HT1 HT2 HT3 hX7 hT7 hide hide1 hide2 hw2 ht1 hcap1 hcapI hide3 hs1 hs2 hs3 hs4 hs5 hs6 hs7 hide4 y0 y1 y2 hb5 hb9' HB5 HX5 HT5 HLT HLD hlen1 hlen2
  have CC := max_yes w7 _ _ n HG7.out HCH.out
  go_wp2_with fail
  refine CC.mono ?_
  rintro e w8 ⟨V, fl, val, sd, v1, v2, hn, rfl, hbest, hi1, hi2, hb⟩
  obtain ⟨Af, df, rfl⟩ := ints_sl hi1 rfl
  obtain ⟨As, ds, rfl⟩ := ints_sl hi2 rfl
  have HSD := Lib.hid hi2
  have HBE := Lib.hid hbest
  have HNO := Lib.hid hn
  have HB8 := Lib.hid (HB7.out.trans (hb.mono HB7.out.size))
  have hw7 := lt_heap HX7.out
  have hX8 := (hb.block _ hw7).trans HX7.out
  have hT8 := (hb.block _ (lt_heap HT7.out)).trans HT7.out
  have HO8 := Lib.hid (own_below HO7.out hb)
  have hW58 : W5.heap.size ≤ w8.heap.size := Nat.le_trans hsz7 hb.size
  replace c0 : w8.cell? ⟨w.heap.size, 0, none⟩ = some (.int .i64 n.vs) := cell_of hX8 rfl
  have c1 : w8.cell? ⟨b8, 0, none⟩ = some (.int .i64 s) := cell_of hT8 rfl
  have c2 : w8.cell? ⟨b8, 1, none⟩ = some (.int .i64 d) := cell_of hT8 rfl
  have c3 : w8.cell? ⟨b8, 2, none⟩ = some (.int .i64 (z : Int)) := cell_of hT8 rfl
  clear hi1 hi2 hbest hn hb hX8 hT8 CC hw7 HO7 HX7 HT7 hsz7 HG7 HB7w
  go_upto_region 13 with fail
  go_region_held3 (fun w' => w'.cell? ⟨w.heap.size, 0, none⟩ = some (.int .i64 n.vs) ∧ w'.cell? ⟨b8, 0, none⟩ = some (.int .i64 s) ∧ w'.cell? ⟨b8, 1, none⟩ = some (.int .i64 d) ∧ w'.cell? ⟨b8, 2, none⟩ = some (.int .i64 (z : Int))) (first | with_reducible exact ⟨c0, c1, c2, c3⟩ | with_reducible exact ⟨k0, k1, k2, k3⟩ | with_reducible exact ⟨q0, q1, q2, q3⟩ | with_reducible exact ⟨m0, m1, m2, m3⟩ | go_keep) (first | (refine step_arcs W5.heap.size l1 ([⟨s, d, (z : Int)⟩] : List ArcD) (v := .slice A7 l1.length d7) (A := some ⟨w8.heap.size, 0, none⟩) (n := 1) (c := 1) (M := fun _ => True) ?_ ?_ ?_ ?_ rfl (.tmp 104) (.tmp 106) rfl rfl rfl ?_; (focus (exact own_below HO8.out (by repeat (first | with_reducible exact Below.refl _ _ | (with_reducible refine Below.drew ?_) | (with_reducible refine Below.alloc ?_ (Nat.le_refl _) _))))); (focus (exact IsSl.mono (IsArcs.ofOwn (l := ([⟨s, d, (z : Int)⟩] : List ArcD)) (base := w8.heap.size) (by (repeat (with_reducible refine World.ownsRow.drew ?_)); exact own_arc1 (by rw [heap_alloc_if, if_pos rfl]) (Nat.le_refl _))) (fun _ _ _ => trivial) (by decide))); (focus (simp; omega)); (focus (first | exact hW58 | (simp; omega))); intro A9 d9 w9 H9; have HB9 : Hid (Below W5.heap.size w8 w9) := Below.trans (Below.mono (by repeat (first | with_reducible exact Below.refl _ _ | (with_reducible refine Below.drew ?_) | (with_reducible refine Below.alloc ?_ (Nat.le_refl _) _))) hW58) H9.out.2.2; have k0 := (HB9.out.cell (p := ⟨w.heap.size, 0, none⟩) hwW).trans c0; have k1 := (HB9.out.cell (p := ⟨b8, 0, none⟩) hb8W).trans c1; have k2 := (HB9.out.cell (p := ⟨b8, 1, none⟩) hb8W).trans c2; have k3 := (HB9.out.cell (p := ⟨b8, 2, none⟩) hb8W).trans c3; have HO9 := Lib.hid H9.out.1; have HSD9 : Hid (IsInts w9 (fun b => w7.heap.size ≤ b) (.slice As sd.length ds) sd) := Lib.hid (IsSl.keep (IsSl.below HSD.out (by repeat (first | with_reducible exact Below.refl _ _ | (with_reducible refine Below.drew ?_) | (with_reducible refine Below.alloc ?_ (Nat.le_refl _) _)))) (fun p hM hl => World.cell?_of_block (H9.out.2.1.block p.block hl (fun e => absurd (HA7.out p.block e.symm) (Nat.not_lt.2 hM)))))) | (go_at_call 23; refine (network_any _ _ _ _ _).mono ?_; rintro e w10 ⟨rfl, hb10⟩; have HY10 : Hid (Below w9.heap.size w9 w10) := Below.trans (by repeat (first | with_reducible exact Below.refl _ _ | (with_reducible refine Below.drew ?_) | (with_reducible refine Below.alloc ?_ (Nat.le_refl _) _))) (hb10.mono (by first | exact Nat.le_refl _ | (simp; done))); have HB10 : Hid (Below W5.heap.size w8 w10) := HB9.out.trans (HY10.out.mono (Nat.le_trans hW58 HB9.out.size)); have q0 := (HB10.out.cell (p := ⟨w.heap.size, 0, none⟩) hwW).trans c0; have q1 := (HB10.out.cell (p := ⟨b8, 0, none⟩) hb8W).trans c1; have q2 := (HB10.out.cell (p := ⟨b8, 1, none⟩) hb8W).trans c2; have q3 := (HB10.out.cell (p := ⟨b8, 2, none⟩) hb8W).trans c3; have HO10 := Lib.hid (own_below HO9.out HY10.out); have HSD10 : Hid (IsInts w10 (fun b => w7.heap.size ≤ b) (.slice As sd.length ds) sd) := Lib.hid (IsSl.below HSD9.out HY10.out); clear hb10) | (go_at_call 18; refine (max_yes _ (fun _ => True) _ ⟨n.vs, turnL n.arcs k (z : Int)⟩ ⟨_, rfl, by show IsArcs _ _ _ (turnL n.arcs k (z : Int)); rw [HDR.out]; exact IsSl.mono (IsArcs.ofOwn (own_below HO10.out (by repeat (first | with_reducible exact Below.refl _ _ | (with_reducible refine Below.drew ?_) | (with_reducible refine Below.alloc ?_ (Nat.le_refl _) _))))) (fun _ _ _ => trivial) (by decide)⟩ HCT.out).mono ?_; rintro e w11 ⟨V2, fl2, val2, sd2, v3, v4, hn2, rfl, hbest2, hi3, hi4, hb11⟩; have HY11 : Hid (Below w10.heap.size w10 w11) := Below.trans (by repeat (first | with_reducible exact Below.refl _ _ | (with_reducible refine Below.drew ?_) | (with_reducible refine Below.alloc ?_ (Nat.le_refl _) _))) (hb11.mono (by first | exact Nat.le_refl _ | (simp; done))); have HB11 : Hid (Below W5.heap.size w8 w11) := HB10.out.trans (HY11.out.mono (Nat.le_trans hW58 HB10.out.size)); have m0 := (HB11.out.cell (p := ⟨w.heap.size, 0, none⟩) hwW).trans c0; have m1 := (HB11.out.cell (p := ⟨b8, 0, none⟩) hb8W).trans c1; have m2 := (HB11.out.cell (p := ⟨b8, 1, none⟩) hb8W).trans c2; have m3 := (HB11.out.cell (p := ⟨b8, 2, none⟩) hb8W).trans c3; obtain ⟨Ag, dg, rfl⟩ := ints_sl hi3 rfl; obtain ⟨At, dt, rfl⟩ := ints_sl hi4 rfl; have HTD := Lib.hid hi4; have HSD11 : Hid (IsInts w11 (fun b => w7.heap.size ≤ b) (.slice As sd.length ds) sd) := Lib.hid (IsSl.below HSD10.out HY11.out); have HEQ := Lib.hid (HBE.out.turned HNO.out hbest2 hn2 hkl); clear hb11 hi3 hi4 hbest2 hn2))
  all_goals
    obtain ⟨hv, hs⟩ := HEQ.out
    subst hv hs
    go_wp2_with fail
    refine nameW fun W12 hW12 => ?_
    have hb12 : Below w11.heap.size w11 W12 := by rw [hW12.out]; exact (by repeat (first | with_reducible exact Below.refl _ _ | (with_reducible refine Below.drew ?_) | (with_reducible refine Below.alloc ?_ (Nat.le_refl _) _)))
    clear hW12
    have CS := same_any W12 _ _ _ _ sd sd (IsSl.below HSD11.out hb12) (IsSl.below HTD.out hb12)
    rw [decide_eq_true rfl] at CS
    refine CS.mono ?_
    rintro e w13 ⟨rfl, hD⟩
    have HB12 := Lib.hid (HB8.out.trans (HB11.out.mono hwW'))
    have HB13 := Lib.hid ((HB12.out.trans (hb12.mono HB12.out.size)))
    have HB14 := Lib.hid (HB13.out.trans (hD.below.mono HB13.out.size))
    go_wp2_with fail
    go_ret
    exact ⟨rfl, HB14.out⟩
end Go.Proofs.Ytikddknhcfhnbaa
