/- The law FlowGrows. -/
import Derived.Test.YtikddknhcfhnbaaF8
import Derived.Test.YtikddknhcfhnbaaN1
namespace Go.Proofs.Ytikddknhcfhnbaa
open Go.RowKit Go.Deep
theorem u64_nat (x : Int) : ∃ t : Nat, IntKind.u64.wrap x = (t : Int) ∧ t < 18446744073709551616 := by
  refine ⟨(x % 18446744073709551616).toNat, ?_, ?_⟩
  · rw [IntKind.wrap_u64]; omega
  · omega
set_option maxHeartbeats 4000000 in
set_option maxRecDepth 100000 in
theorem law8 (w : World) (M : Nat → Prop) (v : Value) (n : NetD) (h : IsNet w M v n) (x1 : Int) (x2 : Nat) (hx2 : x2 < 65536) (x3 : Nat) (hx3 : x3 < 256) :
    Calls Try.prog 8 #[v, .int .i64 x1, .int .u16 (x2 : Int), .int .u8 (x3 : Int)] w fun e w' => e = .returned (.bool true) ∧ Below w.heap.size w w' := by
  have HG := Lib.hid h
  obtain ⟨va, rfl, hva⟩ := id h
  obtain ⟨A, c, rfl, -⟩ := id hva
  clear h hva
  go_enter Try.func8, Try.ntmps8
  go_wp2_with fail
  refine nameW fun W1 hW1 => ?_
  have hB1 : Below w.heap.size w W1 := by rw [hW1.out]; exact (Below.refl w.heap.size w).alloc (Nat.le_refl _) _
  have hb1 : W1.heap[w.heap.size]? = some (.cells #[.int .i64 n.vs, .slice A n.arcs.length c] 24 (0, 0)) := by rw [hW1.out, heap_alloc_if, if_pos rfl]
  clear hW1
  refine (sane_any W1).mono ?_
  rintro e w2 ⟨rfl, hb⟩
  have hX2 := (hb.block _ (lt_heap hb1)).trans hb1
  have HX2 := Lib.hid hX2
  have HB2 := Lib.hid (hB1.trans (hb.mono hB1.size))
  have HG2 := Lib.hid (HG.out.below HB2.out)
  have hbl := lt_heap HX2.out
  have c0 : w2.cell? ⟨w.heap.size, 0, none⟩ = some (.int .i64 n.vs) := cell_of hX2 rfl
  have c1 : w2.cell? ⟨w.heap.size, 1, none⟩ = some (.slice A n.arcs.length c) := cell_of hX2 rfl
  clear hb hb1 hB1 hX2
  by_cases hv60 : (60 : Int) < n.vs
  · go_wp2_with fail
    go_ret
    exact ⟨rfl, HB2.out⟩
  by_cases ha300 : (300 : Int) < (n.arcs.length : Int)
  · go_wp2_with fail
    go_ret
    exact ⟨rfl, HB2.out⟩
  have hv60d : decide ((60 : Int) < n.vs) = false := decide_eq_false hv60
  have ha300d : decide ((300 : Int) < (n.arcs.length : Int)) = false := decide_eq_false ha300
  by_cases hm0 : n.arcs.length = 0
  · have hE1 : ((n.arcs.length : Int) == 0) = true := by rw [hm0]; rfl
    clear hm0
    go_wp2_with fail
    go_ret
    exact ⟨rfl, HB2.out⟩
  have hE1 : ((n.arcs.length : Int) == 0) = false := by rw [beq_eq_false_iff_ne]; omega
  have hE2 : ¬ (n.arcs.length : Int) = 0 := by omega
  cases hch : chkN n
  · have hcz := chkF_no hch
    have CC := fcheck_any w2 _ _ n HG2.out
    rw [hcz] at CC
    clear hcz
    go_wp2_with fail
    refine CC.mono ?_
    rintro e w3 ⟨rfl, hb⟩
    go_wp2_with fail
    go_ret
    exact ⟨rfl, HB2.out.trans (hb.mono HB2.out.size)⟩
  have hcz := chkF_yes hch
  have HCH := Lib.hid hch
  clear hch
  have CC := fcheck_any w2 _ _ n HG2.out
  rw [hcz] at CC
  go_wp2_with fail
  refine CC.mono ?_
  rintro e w3 ⟨rfl, hb⟩
  have HB3 := Lib.hid (HB2.out.trans (hb.mono HB2.out.size))
  have hX3 := (hb.block _ hbl).trans HX2.out
  have HX3 := Lib.hid hX3
  have HG3 := Lib.hid (HG2.out.below hb)
  replace hbl := lt_heap HX3.out
  replace c0 : w3.cell? ⟨w.heap.size, 0, none⟩ = some (.int .i64 n.vs) := cell_of hX3 rfl
  replace c1 : w3.cell? ⟨w.heap.size, 1, none⟩ = some (.slice A n.arcs.length c) := cell_of hX3 rfl
  clear hb hX3 CC
  clear hcz hE1
  obtain ⟨tu, htu, htl⟩ := u64_nat x1
  obtain ⟨k, hk⟩ : ∃ k, k = tu % n.arcs.length := ⟨_, rfl⟩
  have hkl : k < n.arcs.length := hk ▸ Nat.mod_lt _ (by omega)
  have hlu : IntKind.u64.wrap (n.arcs.length : Int) = (n.arcs.length : Int) := by rw [IntKind.wrap_u64]; omega
  have hmod : (tu : Int) % (n.arcs.length : Int) = (k : Int) := by rw [hk, Int.natCast_emod]
  have htm : Int.tmod (tu : Int) (n.arcs.length : Int) = (k : Int) := by rw [Int.tmod_eq_emod_of_nonneg (by omega)]; exact hmod
  have HTL := Lib.hid htl
  clear hk htl
  have HA3 := Lib.hid (net_arcs HG3.out)
  have hm1 : 0 < n.arcs.length := by omega
  go_upto_region 8 with (first
    | (refine wpList_arcs rfl (.tmp 56) (.tmp 58) rfl w3.heap.size [] n.arcs rfl (own_arc0 (by rw [heap_alloc_if, if_pos rfl]) (Nat.le_refl _)) rfl (IsSl.below HA3.out ((Below.refl _ _).alloc (Nat.le_refl _) _)) (by simp; omega) (by simp) ?_
       intro A1 d1 w4 H1
       obtain ⟨g1, rfl, hg1, hd1, he1, hat1⟩ := ArcsAt.ofOwn (by have := H1.out.1; rwa [List.nil_append] at this) hm1
       have HM1 := Lib.hid hat1
       have hb1 := ((Below.refl w3.heap.size w3).alloc (Nat.le_refl _) (.cells #[] 45)).trans H1.out.2.1
       have HB4 := Lib.hid (HB3.out.trans (hb1.mono HB3.out.size))
       have HX4 := Lib.hid ((hb1.block _ hbl).trans HX3.out)
       have HA4 := Lib.hid (IsSl.below HA3.out hb1)
       have hgl1 := hat1.lt
       have hbs1 := hb1.size
       replace hbl := lt_heap HX4.out
       replace c0 : w4.cell? ⟨w.heap.size, 0, none⟩ = some (.int .i64 n.vs) := cell_of HX4.out rfl
       replace c1 : w4.cell? ⟨w.heap.size, 1, none⟩ = some (.slice A n.arcs.length c) := cell_of HX4.out rfl
       skip
       clear hat1 hb1 H1)
    | (refine wpList_arcs rfl (.tmp 60) (.tmp 62) rfl w4.heap.size [] n.arcs rfl (own_arc0 (by rw [heap_alloc_if, if_pos rfl]) (Nat.le_refl _)) rfl (IsSl.below HA4.out ((Below.refl _ _).alloc (Nat.le_refl _) _)) (by simp; omega) (by simp) ?_
       intro A2 d2 w5 H2
       obtain ⟨g2, rfl, hg2, hd2, he2, hat2⟩ := ArcsAt.ofOwn (by have := H2.out.1; rwa [List.nil_append] at this) hm1
       have HM2 := Lib.hid hat2
       have hb2 := ((Below.refl w4.heap.size w4).alloc (Nat.le_refl _) (.cells #[] 45)).trans H2.out.2.1
       have HB5 := Lib.hid (HB4.out.trans (hb2.mono HB4.out.size))
       have HX5 := Lib.hid ((hb2.block _ hbl).trans HX4.out)
       have HA5 := Lib.hid (IsSl.below HA4.out hb2)
       have hgl2 := hat2.lt
       have hbs2 := hb2.size
       replace hbl := lt_heap HX5.out
       replace c0 : w5.cell? ⟨w.heap.size, 0, none⟩ = some (.int .i64 n.vs) := cell_of HX5.out rfl
       replace c1 : w5.cell? ⟨w.heap.size, 1, none⟩ = some (.slice A n.arcs.length c) := cell_of HX5.out rfl
       replace HM1 := Lib.hid (HM1.out.keep (hb2.block _ hgl1))
       clear hat2 hb2 H2))
  obtain ⟨mm, hmm⟩ : ∃ m, m = x3 % 5 := ⟨_, rfl⟩
  have hm5 : mm < 5 := by rw [hmm]; exact Nat.mod_lt _ (by decide)
  have hmo5 : (x3 : Int) % 5 = (mm : Int) := by rw [hmm]; omega
  have htm5 : Int.tmod (x3 : Int) 5 = (mm : Int) := by rw [Int.tmod_eq_emod_of_nonneg (by omega)]; exact hmo5
  obtain ⟨cc, hcc⟩ : ∃ c : Int, c = 1 + (mm : Int) := ⟨_, rfl⟩
  have hwc : IntKind.i64.wrap (1 + (mm : Int)) = cc := by rw [hcc]; exact IntWalk.i64_in _ (by omega)
  have hcb : 1 ≤ cc ∧ cc ≤ 5 := by omega
  have hx3w : IntKind.i64.wrap (x3 : Int) = (x3 : Int) := IntWalk.i64_in _ (by omega)
  have hx2w : IntKind.i64.wrap (x2 : Int) = (x2 : Int) := IntWalk.i64_in _ (by omega)
  have hne : g1 ≠ g2 := by omega
  have hgw : w.heap.size < g1 ∧ w.heap.size < g2 := by have := lt_heap HX3.out; omega
  have HU16 := Lib.hid hx2
  clear hmm hcc hm5 hx2 hx3 HA3 HA4 HA5 hg1 hg2 hgl1 hgl2 hbs1 hbs2 HB3 HB4 HX3 HX4 HG2 HB2 HX2 hE2
  go_wp2_with fail
  go_loopg [70] n.arcs.length (fun gj q70 wx => ∃ j : Nat, j ≤ n.arcs.length ∧ gj = n.arcs.length - j ∧ q70 = .int .i64 (j : Int) ∧ Hid (Below w.heap.size w wx) ∧ Hid (wx.heap[w.heap.size]? = some (.cells #[.int .i64 n.vs, .slice A n.arcs.length c] 24 (0, 0))) ∧ Hid (ArcsAt wx g1 n (capOf n)) ∧ Hid (ArcsAt wx g2 n (fun i => if i < j then cc * capOf n i else capOf n i)) ∧ Hid (∀ i, i < j → capOf n i ≤ 67108864))
  case atStart => exact ⟨0, Nat.zero_le _, rfl, rfl, HB5, HX5, HM1, Lib.hid (HM2.out.congr fun i _ => by rw [if_neg (by omega)]), Lib.hid fun i hi => absurd hi (by omega)⟩
  case round =>
    obtain ⟨j, hj, hgj, rfl, HB, HX, HN1, HN2, HCB⟩ := hrel
    clear HM1 HM2 HB5 HX5 HG3 c0 c1
    have hbl := lt_heap HX.out
    have k0 : wr.cell? ⟨w.heap.size, 0, none⟩ = some (.int .i64 n.vs) := cell_of HX.out rfl
    have hG := HG.out.below HB.out
    by_cases hjl : j < n.arcs.length
    · have hjI : (j : Int) < (n.arcs.length : Int) := by omega
      have hj0 : (0 : Int) ≤ (j : Int) := by omega
      obtain ⟨ba, off, rfl, hba, -, -, e2⟩ := (net_arcs HG.out).at_ HB.out hjl
      have k1 : wr.cell? ⟨w.heap.size, 1, none⟩ = some (.slice (some ⟨ba, off, none⟩) n.arcs.length c) := cell_of HX.out rfl
      have hcap := cap_ok HCH.out hjl
      have hm2 := HN2.out.cell hjl
      have hfz := HN2.out.frozen (j := j * 3 + 2)
      rw [if_neg (Nat.lt_irrefl j)] at hm2
      have hg2l := HN2.out.lt
      have HCJ : Hid (capOf n j = (nthA n.arcs j).cap) := Lib.hid rfl
      rw [HCJ.out] at hm2
      obtain ⟨x, hx⟩ : ∃ x, x = (nthA n.arcs j).cap := ⟨_, rfl⟩
      rw [← hx] at e2 hcap hm2 HCJ
      have hx0 : ¬ x < 0 := by omega
      clear hx hG
      by_cases hbig : 67108864 < x
      · go_wp2_with fail
        go_ret
        exact ⟨rfl, HB.out⟩
      · have hxb : x ≤ 67108864 := by omega
        have hmu : 0 ≤ x * cc ∧ x * cc ≤ 335544320 := by
          refine ⟨Int.mul_nonneg hcap.1 (by omega), ?_⟩
          have h1 := Int.mul_le_mul_of_nonneg_right hxb (show 0 ≤ cc by omega)
          omega
        obtain ⟨y, hy⟩ : ∃ y, y = x * cc := ⟨_, rfl⟩
        rw [← hy] at hmu
        have hwy : IntKind.i64.wrap (x * cc) = y := by rw [← hy]; exact IntWalk.i64_in _ (by omega)
        have HY := Lib.hid hy
        clear hy hmu hcap
        go_upto_region 15 with fail
        refine nameC fun W6 hW6 => ?_
        have hN2 := HN2.out.set hjl y
        have HN6 : Hid (ArcsAt W6 g2 n (fun i => if i < j + 1 then cc * capOf n i else capOf n i)) := Lib.hid (by
          rw [hW6.out]
          refine hN2.congr fun i hi => ?_
          by_cases q : i = j
          · rw [if_pos q, if_pos (by omega), q, HCJ.out, HY.out, Int.mul_comm]
          · rw [if_neg q]
            by_cases q2 : i < j
            · rw [if_pos q2, if_pos (by omega)]
            · rw [if_neg q2, if_neg (by omega)])
        have HN5 : Hid (ArcsAt W6 g1 n (capOf n)) := Lib.hid (HN1.out.keep (by rw [hW6.out, heap_set_if, if_neg hne]))
        have HB6 : Hid (Below w.heap.size w W6) := Lib.hid (by rw [hW6.out]; exact HB.out.setCell (by show w.heap.size ≤ g2; omega) _)
        have HX6 : Hid (W6.heap[w.heap.size]? = some (.cells #[.int .i64 n.vs, .slice (some ⟨ba, off, none⟩) n.arcs.length c] 24 (0, 0))) := Lib.hid (by rw [hW6.out, heap_set_if, if_neg (by omega)]; exact HX.out)
        have HC6 : Hid (∀ i, i < j + 1 → capOf n i ≤ 67108864) := Lib.hid fun i hi => by
          rcases Nat.lt_or_ge i j with q | q
          · exact HCB.out i q
          · rw [show i = j by omega, HCJ.out]; exact hxb
        clear hW6 hN2 k0 k1 e2 hm2 hfz hg2l hwy
        go_wp2_with fail
        go_roundg (n.arcs.length - (j + 1))
        case measure => omega
        case rel => exact ⟨j + 1, by omega, rfl, by go_num, HB6, HX6, HN5, HN6, HC6⟩
    · have hnl : ¬ (j : Int) < (n.arcs.length : Int) := by omega
      obtain rfl : j = n.arcs.length := by omega
      obtain ⟨w6, rfl⟩ : ∃ W, W = wr := ⟨_, rfl⟩
      have hmk := HN1.out.cell hkl
      have hfk := HN1.out.frozen (j := k * 3 + 2)
      have hg1l := HN1.out.lt
      have hkI : (k : Int) < (n.arcs.length : Int) := by omega
      have hk0 : (0 : Int) ≤ (k : Int) := by omega
      have hcapk := cap_ok HCH.out hkl
      have hcb2 := HCB.out k hkl
      obtain ⟨y, hy⟩ : ∃ y, y = capOf n k := ⟨_, rfl⟩
      have hy0 : 0 ≤ y := by rw [hy]; exact hcapk.1
      rw [← hy] at hmk hcb2
      have hwk : IntKind.i64.wrap (y + (x2 : Int)) = y + (x2 : Int) := IntWalk.i64_in _ (by have := HU16.out; omega)
      have HY := Lib.hid hy
      clear hy hcapk
      go_upto_region 17 with fail
      refine nameC fun W7 hW7 => ?_
      have hN1 := HN1.out.set hkl (y + (x2 : Int))
      have HN1' : Hid (ArcsAt W7 g1 n (fun i => if i = k then capOf n i + (x2 : Int) else capOf n i)) := Lib.hid (by
        rw [hW7.out]
        refine hN1.congr fun i hi => ?_
        by_cases q : i = k
        · rw [if_pos q, if_pos q, q, HY.out]
        · rw [if_neg q, if_neg q])
      have HN2' : Hid (ArcsAt W7 g2 n (fun i => cc * capOf n i)) := Lib.hid ((HN2.out.keep (by rw [hW7.out, heap_set_if, if_neg (fun e => hne e.symm)])).congr fun i hi => by rw [if_pos hi])
      have HB7 : Hid (Below w.heap.size w W7) := Lib.hid (by rw [hW7.out]; exact HB.out.setCell (by show w.heap.size ≤ g1; omega) _)
      have hX7 : W7.heap[w.heap.size]? = some (.cells #[.int .i64 n.vs, .slice A n.arcs.length c] 24 (0, 0)) := by rw [hW7.out, heap_set_if, if_neg (by omega)]; exact HX.out
      have HX7 := Lib.hid hX7
      have HG7 := Lib.hid (HG.out.below HB7.out)
      have hbl := lt_heap hX7
      have c0 : W7.cell? ⟨w.heap.size, 0, none⟩ = some (.int .i64 n.vs) := cell_of hX7 rfl
      have c1 : W7.cell? ⟨w.heap.size, 1, none⟩ = some (.slice A n.arcs.length c) := cell_of hX7 rfl
      clear hW7 hN1 hX7 k0 hG hmk hfk hg1l hwk HN1 HN2 HB HX
      have hck := fun i hi => cap_ok HCH.out (i := i) hi
      have HK1 : Hid (chkN (capN n (fun i => if i = k then capOf n i + (x2 : Int) else capOf n i)) = true) := Lib.hid (capN_chk HCH.out fun i hi => by
        have h1 := hck i hi
        have h2 := HCB.out i hi
        have h3 := HU16.out
        show 0 ≤ (if i = k then capOf n i + (x2 : Int) else capOf n i) ∧ (if i = k then capOf n i + (x2 : Int) else capOf n i) ≤ 1073741824
        have h4 : capOf n i = (nthA n.arcs i).cap := rfl
        split <;> omega)
      have HK2 : Hid (chkN (capN n (fun i => cc * capOf n i)) = true) := Lib.hid (capN_chk HCH.out fun i hi => by
        have h1 := hck i hi
        have h2 := HCB.out i hi
        have h4 : capOf n i = (nthA n.arcs i).cap := rfl
        refine ⟨Int.mul_nonneg (by omega) (by omega), ?_⟩
        have h5 := Int.mul_le_mul_of_nonneg_right h2 (show 0 ≤ cc by omega)
        have h6 := Int.mul_comm cc (capOf n i)
        show cc * capOf n i ≤ 1073741824
        omega)
      clear hck
      have CC := max_yes W7 _ _ n HG7.out HCH.out
      go_wp2_with fail
      refine CC.mono ?_
      rintro e w8 ⟨V0, fl0, val0, sd0, v1, v2, hn, rfl, hbest, hi1, hi2, hb⟩
      obtain ⟨Af0, df0, rfl⟩ := ints_sl hi1 rfl
      obtain ⟨As0, ds0, rfl⟩ := ints_sl hi2 rfl
      have HBE0 := Lib.hid hbest
      have HNO0 := Lib.hid hn
      clear hi1 hi2 hbest hn
      have HB8 := Lib.hid (HB7.out.trans (hb.mono HB7.out.size))
      have hX8 := (hb.block _ hbl).trans HX7.out
      have HX8 := Lib.hid hX8
      have HG8 := Lib.hid (HG7.out.below hb)
      replace HN1' := Lib.hid (HN1'.out.keep (hb.block _ HN1'.out.lt))
      replace HN2' := Lib.hid (HN2'.out.keep (hb.block _ HN2'.out.lt))
      replace hbl := lt_heap HX8.out
      replace c0 : w8.cell? ⟨w.heap.size, 0, none⟩ = some (.int .i64 n.vs) := cell_of hX8 rfl
      replace c1 : w8.cell? ⟨w.heap.size, 1, none⟩ = some (.slice A n.arcs.length c) := cell_of hX8 rfl
      clear hb hX8 CC
      have CC := network_any w8 n.vs (some ⟨g1, 0, none⟩) n.arcs.length d1
      go_wp2_with fail
      refine CC.mono ?_
      rintro e w9 ⟨rfl, hb⟩
      have HB9 := Lib.hid (HB8.out.trans (hb.mono HB8.out.size))
      have hX9 := (hb.block _ hbl).trans HX8.out
      have HX9 := Lib.hid hX9
      have HG9 := Lib.hid (HG8.out.below hb)
      replace HN1' := Lib.hid (HN1'.out.keep (hb.block _ HN1'.out.lt))
      replace HN2' := Lib.hid (HN2'.out.keep (hb.block _ HN2'.out.lt))
      replace hbl := lt_heap HX9.out
      replace c0 : w9.cell? ⟨w.heap.size, 0, none⟩ = some (.int .i64 n.vs) := cell_of hX9 rfl
      replace c1 : w9.cell? ⟨w.heap.size, 1, none⟩ = some (.slice A n.arcs.length c) := cell_of hX9 rfl
      clear hb hX9 CC
      have CC := max_yes w9 _ _ (capN n (fun i => if i = k then capOf n i + (x2 : Int) else capOf n i)) ⟨_, rfl, HN1'.out.isArcs (M := fun _ => True) trivial hd1 he1⟩ HK1.out
      go_wp2_with fail
      refine CC.mono ?_
      rintro e w10 ⟨V1, fl1, val1, sd1, v1, v2, hn, rfl, hbest, hi1, hi2, hb⟩
      obtain ⟨Af1, df1, rfl⟩ := ints_sl hi1 rfl
      obtain ⟨As1, ds1, rfl⟩ := ints_sl hi2 rfl
      have HBE1 := Lib.hid hbest
      have HNO1 := Lib.hid hn
      clear hi1 hi2 hbest hn
      have HB10 := Lib.hid (HB9.out.trans (hb.mono HB9.out.size))
      have hX10 := (hb.block _ hbl).trans HX9.out
      have HX10 := Lib.hid hX10
      have HG10 := Lib.hid (HG9.out.below hb)
      replace HN1' := Lib.hid (HN1'.out.keep (hb.block _ HN1'.out.lt))
      replace HN2' := Lib.hid (HN2'.out.keep (hb.block _ HN2'.out.lt))
      replace hbl := lt_heap HX10.out
      replace c0 : w10.cell? ⟨w.heap.size, 0, none⟩ = some (.int .i64 n.vs) := cell_of hX10 rfl
      replace c1 : w10.cell? ⟨w.heap.size, 1, none⟩ = some (.slice A n.arcs.length c) := cell_of hX10 rfl
      clear hb hX10 CC
      have CC := network_any w10 n.vs (some ⟨g2, 0, none⟩) n.arcs.length d2
      go_wp2_with fail
      refine CC.mono ?_
      rintro e w11 ⟨rfl, hb⟩
      have HB11 := Lib.hid (HB10.out.trans (hb.mono HB10.out.size))
      have hX11 := (hb.block _ hbl).trans HX10.out
      have HX11 := Lib.hid hX11
      have HG11 := Lib.hid (HG10.out.below hb)
      replace HN1' := Lib.hid (HN1'.out.keep (hb.block _ HN1'.out.lt))
      replace HN2' := Lib.hid (HN2'.out.keep (hb.block _ HN2'.out.lt))
      replace hbl := lt_heap HX11.out
      replace c0 : w11.cell? ⟨w.heap.size, 0, none⟩ = some (.int .i64 n.vs) := cell_of hX11 rfl
      replace c1 : w11.cell? ⟨w.heap.size, 1, none⟩ = some (.slice A n.arcs.length c) := cell_of hX11 rfl
      clear hb hX11 CC
      have CC := max_yes w11 _ _ (capN n (fun i => cc * capOf n i)) ⟨_, rfl, HN2'.out.isArcs (M := fun _ => True) trivial hd2 he2⟩ HK2.out
      go_wp2_with fail
      refine CC.mono ?_
      rintro e w12 ⟨V2, fl2, val2, sd2, v1, v2, hn, rfl, hbest, hi1, hi2, hb⟩
      obtain ⟨Af2, df2, rfl⟩ := ints_sl hi1 rfl
      obtain ⟨As2, ds2, rfl⟩ := ints_sl hi2 rfl
      have HBE2 := Lib.hid hbest
      have HNO2 := Lib.hid hn
      clear hi1 hi2 hbest hn
      have HB12 := Lib.hid (HB11.out.trans (hb.mono HB11.out.size))
      have hX12 := (hb.block _ hbl).trans HX11.out
      have HX12 := Lib.hid hX12
      have HG12 := Lib.hid (HG11.out.below hb)
      replace HN1' := Lib.hid (HN1'.out.keep (hb.block _ HN1'.out.lt))
      replace HN2' := Lib.hid (HN2'.out.keep (hb.block _ HN2'.out.lt))
      replace hbl := lt_heap HX12.out
      replace c0 : w12.cell? ⟨w.heap.size, 0, none⟩ = some (.int .i64 n.vs) := cell_of hX12 rfl
      replace c1 : w12.cell? ⟨w.heap.size, 1, none⟩ = some (.slice A n.arcs.length c) := cell_of hX12 rfl
      clear hb hX12 CC
      have hgr := HBE0.out.grows HNO0.out HBE1.out HNO1.out hkl (show (0 : Int) ≤ (x2 : Int) by omega) (fun i => rfl)
      have hti := HBE0.out.times HNO0.out HBE2.out HNO2.out (show (0 : Int) ≤ cc by omega) (fun i _ => rfl)
      have htop := HBE0.out.top
      have hpos := HBE0.out.pos
      have hx8 := HU16.out
      have hw1 : IntKind.i64.wrap (val0 + (x2 : Int)) = val0 + (x2 : Int) := IntWalk.i64_in _ (by omega)
      have hw2 : IntKind.i64.wrap (cc * val0) = val2 := by
        have h1 := Int.mul_le_mul_of_nonneg_right hcb.2 hpos
        have h2 := Int.mul_le_mul_of_nonneg_right hcb.1 hpos
        rw [hti]
        exact IntWalk.i64_in _ (by omega)
      have hl1 := hgr.1
      have hl2 := hgr.2
      clear hgr hti htop hpos hx8 HG12 HX12
      go_wp2_with fail
      go_ret
      exact ⟨rfl, HB12.out⟩
end Go.Proofs.Ytikddknhcfhnbaa
