/- The law FlowSaturates. -/
import Derived.Test.YtikddknhcfhnbaaF8
import Derived.Test.YtikddknhcfhnbaaN1
import Derived.Test.YtikddknhcfhnbaaMp
namespace Go.Proofs.Ytikddknhcfhnbaa
open Go.RowKit Go.Deep
theorem Try.zeroBool27 (w : World) : (zeroValue 4).run Try.prog w = .ok (.bool false) w := by kernel_rfl
theorem wfI {x : Int} (h1 : 0 ≤ x) (h2 : x ≤ 1000000) : (Lit.int .i64 x).wf = true := by
  simp [Lit.wf, IntKind.min, IntKind.max, IntKind.signed, IntKind.bits]; omega
theorem SetB.look {P : Program} {kt et : TypeId} {q : IntKind} {w : World} {b n : Nat} {s : Int → Bool} (h : SetB P kt et q w b n s) {t : TypeId} (hk : P.underlying kt = some (.int q)) (ht : P.underlying t = some (.map kt et)) (he : P.underlying et = some .bool) (hz : (zeroValue et).run P w = .ok (.bool false) w) (key : Int) (hwf : (Lit.int q key).wf = true) :
    (Instr.lookup t (.map (some b)) (.int q key) false).run P w = .ok (.bool (s key)) w := by
  obtain ⟨D, hown, hs⟩ := h
  obtain ⟨v, ps, hrun, hv⟩ := hown.lookup (Maps.int_keyed hk) ht hz (plainElem_bool he false) (Maps.keyOf_int_mk hk hwf)
  obtain ⟨c, rfl, hc⟩ := plainElem_bool_inv he hv
  simp only [Prod.mk.injEq] at hc
  rw [hs key hwf] at hc
  have hcs : c = s key := by have := hc.1; injection this with h1; injection h1 with h2; exact h2.symm
  rw [hcs] at hrun
  exact hrun
theorem contains_snoc {l : List Int} {k : Nat} (hk : k < l.length) {s : Int → Bool} (h : ∀ x, s x = (l.take k).contains x) : ∀ x, updS s (nthI l k) true x = (l.take (k + 1)).contains x := fun x => by
  rw [take_snoc hk]
  unfold updS
  by_cases e : x = nthI l k
  · rw [if_pos e, e]; simp
  · rw [if_neg e, h x]; simp [e]
set_option maxHeartbeats 4000000 in
set_option maxRecDepth 100000 in
theorem law9 (w : World) (M : Nat → Prop) (v : Value) (n : NetD) (h : IsNet w M v n) :
    Calls Try.prog 9 #[v] w fun e w' => e = .returned (.bool true) ∧ Below w.heap.size w w' := by
  have HG := Lib.hid h
  obtain ⟨va, rfl, hva⟩ := id h
  obtain ⟨A, c, rfl, -⟩ := id hva
  clear h hva
  go_enter Try.func9, Try.ntmps9
  go_wp2_with fail
  refine nameW fun W1 hW1 => ?_
  have hB1 : Below w.heap.size w W1 := by rw [hW1.out]; exact (Below.refl w.heap.size w).alloc (Nat.le_refl _) _
  have hb1 : W1.heap[w.heap.size]? = some (.cells #[.int .i64 n.vs, .slice A n.arcs.length c] 24 (0, 0)) := by rw [hW1.out, heap_alloc_if, if_pos rfl]
  clear hW1
  refine (sane_any W1).mono ?_
  rintro e w2 ⟨rfl, hb⟩
  have hX2 := (hb.block _ (lt_heap hb1)).trans hb1
  have HX2 := Lib.hid hX2
  have HB2 := Lib.hid (hB1.trans (hb.mono hB1.size))
  have HG2 := Lib.hid (HG.out.below HB2.out)
  have hbl := lt_heap HX2.out
  have c0 : w2.cell? ⟨w.heap.size, 0, none⟩ = some (.int .i64 n.vs) := cell_of hX2 rfl
  have c1 : w2.cell? ⟨w.heap.size, 1, none⟩ = some (.slice A n.arcs.length c) := cell_of hX2 rfl
  clear hb hb1 hB1 hX2
  by_cases hv60 : (30 : Int) < n.vs
  · go_wp2_with fail
    go_ret
    exact ⟨rfl, HB2.out⟩
  by_cases ha300 : (60 : Int) < (n.arcs.length : Int)
  · go_wp2_with fail
    go_ret
    exact ⟨rfl, HB2.out⟩
  have hv60d : decide ((30 : Int) < n.vs) = false := decide_eq_false hv60
  have ha300d : decide ((60 : Int) < (n.arcs.length : Int)) = false := decide_eq_false ha300
  cases hch : chkN n
  · have CC := max_no w2 _ _ n HG2.out hch
    go_wp2_with fail
    refine CC.mono ?_
    rintro e w3 ⟨rfl, hb⟩
    have HB3 := Lib.hid (HB2.out.trans (hb.mono HB2.out.size))
    have hX3 := (hb.block _ hbl).trans HX2.out
    have HX3 := Lib.hid hX3
    have HG3 := Lib.hid (HG2.out.below hb)
    replace hbl := lt_heap HX3.out
    replace c0 : w3.cell? ⟨w.heap.size, 0, none⟩ = some (.int .i64 n.vs) := cell_of hX3 rfl
    replace c1 : w3.cell? ⟨w.heap.size, 1, none⟩ = some (.slice A n.arcs.length c) := cell_of hX3 rfl
    clear hb hX3 CC
    go_wp2_with fail
    go_ret
    exact ⟨rfl, HB3.out⟩
  have CC := max_yes w2 _ _ n HG2.out hch
  go_wp2_with fail
  refine CC.mono ?_
  rintro e w3 ⟨V, fl, val, sd, v1, v2, hn, rfl, hbest, hi1, hi2, hb⟩
  obtain ⟨Af, df, rfl⟩ := ints_sl hi1 hbest.len
  obtain ⟨As, ds, rfl⟩ := ints_sl hi2 rfl
  have HF := Lib.hid hi1
  have HS := Lib.hid hi2
  have HBE := Lib.hid hbest
  have HNO := Lib.hid hn
  have HCH := Lib.hid hch
  have hsl : sd.length ≤ 60 := by have h1 := (sideB_rise hbest.side).2.2.2.2; omega
  clear hi1 hi2 hbest hn hch
  have HB3 := Lib.hid (HB2.out.trans (hb.mono HB2.out.size))
  have hX3 := (hb.block _ hbl).trans HX2.out
  have HX3 := Lib.hid hX3
  have HG3 := Lib.hid (HG2.out.below hb)
  replace hbl := lt_heap HX3.out
  replace c0 : w3.cell? ⟨w.heap.size, 0, none⟩ = some (.int .i64 n.vs) := cell_of hX3 rfl
  replace c1 : w3.cell? ⟨w.heap.size, 1, none⟩ = some (.slice A n.arcs.length c) := cell_of hX3 rfl
  clear hb hX3 CC
  have hmm := @run_makeMap Try.prog
  go_upto_region 11 with fail
  clear hmm
  refine nameC fun W4 hW4 => ?_
  have hB4 : Below w3.heap.size w3 W4 := by rw [hW4.out]; exact (Below.refl _ _).alloc (Nat.le_refl _) _
  have hS4 : SetB Try.prog 3 4 .i64 W4 w3.heap.size 0 (fun _ => false) := by rw [hW4.out]; exact SetB.made w3
  have HB4 := Lib.hid hB4
  have HS4 := Lib.hid hS4
  have HW3 : Hid (w.heap.size < w3.heap.size) := Lib.hid hbl
  obtain ⟨bm, hbm⟩ : ∃ b, b = w3.heap.size := ⟨_, rfl⟩
  rw [← hbm] at HS4 HB4 HW3 ⊢
  have HBM := Lib.hid hbm
  clear hW4 hB4 hS4 hbm
  go_wp2_with fail
  go_loopg [46] sd.length (fun gk q46 wx => ∃ k : Nat, k ≤ sd.length ∧ gk = sd.length - k ∧ q46 = .int .i64 (k : Int) ∧ Hid (Below bm w3 wx) ∧ Hid (∃ s, SetB Try.prog 3 4 .i64 wx bm k s ∧ ∀ x, s x = (sd.take k).contains x))
  case atStart => exact ⟨0, Nat.zero_le _, rfl, rfl, HB4, Lib.hid ⟨_, HS4.out, fun x => by simp⟩⟩
  case round =>
    obtain ⟨k, hk, hgk, rfl, HBk, HSk⟩ := hrel
    clear HB4 HS4
    have HS3 := Lib.hid (IsSl.below HS.out (HBM.out ▸ HBk.out))
    by_cases hkl : k < sd.length
    · have hkI : (k : Int) < (sd.length : Int) := by omega
      have hk0 : (0 : Int) ≤ (k : Int) := by omega
      obtain ⟨ba, oa, rfl, hba, hca⟩ := IsInts.at_ HS3.out (Below.refl _ _) hkl
      obtain ⟨v, hv, hvx⟩ := HBE.out.mem (nthI sd k) (by rw [nthI_get hkl]; exact List.getElem_mem hkl)
      obtain ⟨s, hset, hs⟩ := HSk.out
      have HSN := Lib.hid (contains_snoc hkl hs)
      rw [hvx] at hca HSN
      have hV5 := HNO.out.hi
      have HWF := Lib.hid (wfI (x := (v : Int)) (by omega) (by omega))
      have HSet := Lib.hid hset
      have hkm : k < maxLen := by unfold maxLen; omega
      clear hset hs hvx hv HSk
      go_wp2_with (at_mapUpdate; refine wpList_update_set (w := _) rfl _ _ _ 50 rfl Try.underlying3 Try.underlying50 Try.underlying4 rfl HSet.out hkm _ rfl HWF.out true rfl ?_; intro w8 hs8 hg8)
      have HB8 : Hid (Below bm w3 w8) := Lib.hid (HBk.out.grown hg8 (by rw [HBM.out]; exact (HBM.out ▸ HBk.out).size) (fun j e => by cases e; exact Nat.le_refl _))
      go_roundg (sd.length - (k + 1))
      case measure => omega
      case rel => exact ⟨k + 1, by omega, rfl, by go_num, HB8, Lib.hid ⟨_, hs8, HSN.out⟩⟩
    · have hnl : ¬ (k : Int) < (sd.length : Int) := by omega
      obtain rfl : k = sd.length := by omega
      obtain ⟨w5, rfl⟩ : ∃ W, W = wr := ⟨_, rfl⟩
      obtain ⟨s, hset, hs⟩ := HSk.out
      rw [List.take_length] at hs
      have HSet := Lib.hid hset
      have HSC : Hid (∀ v : Nat, s (v : Int) = setS sd v) := Lib.hid fun v => hs _
      have hb35 : Below w3.heap.size w3 w5 := HBM.out ▸ HBk.out
      have HB5 := Lib.hid (HB3.out.trans (hb35.mono HB3.out.size))
      have hX5 := (hb35.block _ hbl).trans HX3.out
      have HX5 := Lib.hid hX5
      have HF5 := Lib.hid (IsSl.below HF.out hb35)
      have HG5 := Lib.hid (HG3.out.below hb35)
      replace hbl := lt_heap hX5
      replace c0 : w5.cell? ⟨w.heap.size, 0, none⟩ = some (.int .i64 n.vs) := cell_of hX5 rfl
      replace c1 : w5.cell? ⟨w.heap.size, 1, none⟩ = some (.slice A n.arcs.length c) := cell_of hX5 rfl
      clear hset hs hb35 hX5 HSk HBk hk hkl hgk hnl HB3 HX3 HG3 HB2 HX2 HG2 HF
      go_wp2_with fail
      go_loopg [56] n.arcs.length (fun gk q56 wx => ∃ j : Nat, j ≤ n.arcs.length ∧ gk = n.arcs.length - j ∧ q56 = .int .i64 (j : Int) ∧ Hid (Below w5.heap.size w5 wx))
      case atStart => exact ⟨0, Nat.zero_le _, rfl, rfl, Lib.hid (Below.refl _ _)⟩
      case round =>
        obtain ⟨j, hj, hgj, rfl, HBx⟩ := hrel
        have hX6 := (HBx.out.block _ hbl).trans HX5.out
        have HX6 := Lib.hid hX6
        have hbw := lt_heap hX6
        have HB6 := Lib.hid (HB5.out.trans (HBx.out.mono HB5.out.size))
        by_cases hjl : j < n.arcs.length
        · have hjI : (j : Int) < (n.arcs.length : Int) := by omega
          have hj0 : (0 : Int) ≤ (j : Int) := by omega
          have hm1 : 0 < n.arcs.length := by omega
          obtain ⟨ba, off, rfl, hba, e0, e1, e2⟩ := (net_arcs HG5.out).at_ HBx.out hjl
          obtain ⟨bf, of, rfl, hbf, ef⟩ := IsInts.at_ HF5.out HBx.out (show j < fl.length by rw [HBE.out.len]; exact hjl)
          obtain ⟨a, b, cp, harc, ha, hb0, hb, hab, hcp⟩ := HNO.out.arc j hjl
          have HO1 := HBE.out.out j hjl
          have HO2 := HBE.out.inn j hjl
          have HV5 := Lib.hid HNO.out.hi
          have HCJ : Hid (capOf n j = (cp : Int)) := Lib.hid (by unfold capOf; rw [harc])
          rw [harc] at e0 e1 e2 HO1 HO2
          dsimp only at e0 e1 e2 HO1 HO2
          rw [Int.toNat_natCast, Int.toNat_natCast] at HO1 HO2
          obtain ⟨y, hy⟩ : ∃ y, y = nthI fl j := ⟨_, rfl⟩
          rw [← hy] at ef HO1 HO2
          have HY := Lib.hid hy
          clear hy
          obtain ⟨sa, hsa⟩ : ∃ x, x = setS sd a := ⟨_, rfl⟩
          obtain ⟨sb, hsb⟩ : ∃ x, x = setS sd b := ⟨_, rfl⟩
          rw [← hsa, ← hsb] at HO1 HO2
          clear harc c0 c1
          have c0 : wr.cell? ⟨w.heap.size, 0, none⟩ = some (.int .i64 n.vs) := cell_of hX6 rfl
          have c1 : wr.cell? ⟨w.heap.size, 1, none⟩ = some (.slice (some ⟨ba, off, none⟩) n.arcs.length c) := cell_of hX6 rfl
          obtain ⟨w6, rfl⟩ : ∃ W, W = wr := ⟨_, rfl⟩
          go_upto_region 19 with fail
          refine nameC fun W7 hW7 => ?_
          have hB7 : Below w6.heap.size w6 W7 := by rw [hW7.out]; exact (Below.refl _ _).alloc (Nat.le_refl _) _
          obtain ⟨bx, hbx⟩ : ∃ b, b = w6.heap.size := ⟨_, rfl⟩
          have hk7 : W7.heap[bx]? = some (.cells #[.int .i64 (a : Int), .int .i64 (b : Int), .int .i64 (cp : Int)] 45 (0, 0)) := by rw [hW7.out, hbx, heap_alloc_if, if_pos rfl]
          have x0 : W7.cell? ⟨bx, 0, none⟩ = some (.int .i64 (a : Int)) := cell_of hk7 rfl
          have x1 : W7.cell? ⟨bx, 1, none⟩ = some (.int .i64 (b : Int)) := cell_of hk7 rfl
          have x2 : W7.cell? ⟨bx, 2, none⟩ = some (.int .i64 (cp : Int)) := cell_of hk7 rfl
          have hbf6 : bf < w6.heap.size := Nat.lt_of_lt_of_le hbf HBx.out.size
          have f7 : W7.cell? ⟨bf, of + j, none⟩ = some (.int .i64 y) := (hB7.cell (p := ⟨bf, _, none⟩) hbf6).trans ef
          have HB7 := Lib.hid (HB6.out.trans (hB7.mono HB6.out.size))
          have HX7 := Lib.hid ((hB7.block _ hbw).trans hX6)
          have HBy := Lib.hid (HBx.out.trans (hB7.mono HBx.out.size))
          have hS7 := HSet.out.below HBy.out (Nat.le_refl _)
          have hla := fun m => (hS7.drewN m).look Try.underlying3 Try.underlying50 Try.underlying4 (Try.zeroBool27 _) (a : Int) (wfI (by omega) (by have := HV5.out; omega))
          have hlb := fun m => (hS7.drewN m).look Try.underlying3 Try.underlying50 Try.underlying4 (Try.zeroBool27 _) (b : Int) (wfI (by omega) (by have := HV5.out; omega))
          simp only [HSC.out, ← hsa] at hla
          simp only [HSC.out, ← hsb] at hlb
          have HK7 := Lib.hid hk7
          rw [← hbx]
          clear hW7 hbx hsa hsb hS7 hB7 hX6 hk7 e0 e1 e2 ef c0 c1 hbf6
          go_cut [100] (fun q wx => q = .bool false ∧ Hid (Dr W7 wx))
          case first =>
            have hd1 : sa = true → sb = false → (y != (cp : Int)) = false := fun h1 h2 => by rw [HO1 h1 h2]; simp
            have hd2 : sa = false → sb = true → (y != 0) = false := fun h1 h2 => by rw [HO2 h1 h2]; simp
            clear HO1 HO2
            cases sa <;> cases sb
            · clear hd1 hd2
              go_quiet (fail)
              go_wp2_with fail
              go_meet
              case rel => exact ⟨rfl, Lib.hid ((Dr.refl _).drewN _)⟩
            · have hy0 := hd2 rfl rfl
              clear hd1 hd2
              go_quiet (fail)
              go_wp2_with fail
              go_meet
              case rel => exact ⟨rfl, Lib.hid ((Dr.refl _).drewN _)⟩
            · have hy0 := hd1 rfl rfl
              clear hd1 hd2
              go_quiet (fail)
              go_wp2_with fail
              go_meet
              case rel => exact ⟨rfl, Lib.hid ((Dr.refl _).drewN _)⟩
            · clear hd1 hd2
              go_quiet (fail)
              go_wp2_with fail
              go_meet
              case rel => exact ⟨rfl, Lib.hid ((Dr.refl _).drewN _)⟩
          case rest =>
          obtain ⟨rfl, HD⟩ := hcut
          obtain ⟨mq, rfl⟩ := HD.out
          go_upto_region 21 with fail
          refine nameC fun w8 hw8 => ?_
          have hB8 : Below W7.heap.size W7 w8 := by rw [hw8.out]; exact below_drewN (Below.refl _ _) _
          clear hw8
          have hx7 := lt_heap HK7.out
          have hk8 := (hB8.block _ hx7).trans HK7.out
          have x2 : w8.cell? ⟨bx, 2, none⟩ = some (.int .i64 (cp : Int)) := cell_of hk8 rfl
          have f8 : w8.cell? ⟨bf, of + j, none⟩ = some (.int .i64 y) := (hB8.cell (p := ⟨bf, _, none⟩) (lt_of_cell f7)).trans f7
          have HB8 := Lib.hid (HB7.out.trans (hB8.mono HB7.out.size))
          have hX8 := (hB8.block _ (lt_heap HX7.out)).trans HX7.out
          have HX8 := Lib.hid hX8
          have HBz := Lib.hid (HBy.out.trans (hB8.mono HBy.out.size))
          have hx8 := lt_heap hk8
          replace hbl := lt_heap hX8
          have c0 : w8.cell? ⟨w.heap.size, 0, none⟩ = some (.int .i64 n.vs) := cell_of hX8 rfl
          have c1 : w8.cell? ⟨w.heap.size, 1, none⟩ = some (.slice (some ⟨ba, off, none⟩) n.arcs.length c) := cell_of hX8 rfl
          clear hB8 hk8 hX8 HB7 HX7 HBy HD HK7 hla hlb f7 x0 x1 HO1 HO2 HX6 HB6 hx7
          by_cases hlt : y < (cp : Int) ∧ (cp : Int) < 536870912
          · have h1 := hlt.1
            have h2 := hlt.2
            go_quiet (fail)
            go_upto_region 22 with fail
            refine nameC fun W9 hW9 => ?_
            have hB9 : Below w8.heap.size w8 W9 := by rw [hW9.out]; exact below_drewN (Below.refl _ _) _
            have HB9 := Lib.hid (HB8.out.trans (hB9.mono HB8.out.size))
            have HX9 := Lib.hid ((hB9.block _ hbl).trans HX8.out)
            have HBu := Lib.hid (HBz.out.trans (hB9.mono HBz.out.size))
            have HA9 := Lib.hid (net_arcs (HG.out.below HB9.out))
            replace hbl := lt_heap HX9.out
            replace c0 : W9.cell? ⟨w.heap.size, 0, none⟩ = some (.int .i64 n.vs) := cell_of HX9.out rfl
            replace c1 : W9.cell? ⟨w.heap.size, 1, none⟩ = some (.slice (some ⟨ba, off, none⟩) n.arcs.length c) := cell_of HX9.out rfl
            clear hW9 hB9 x2 f8 HB8 HX8 HBz
            go_upto_region 23 with (refine wpList_arcs rfl (.tmp 113) (.tmp 115) rfl W9.heap.size [] n.arcs rfl (own_arc0 (by rw [heap_alloc_if, if_pos rfl]) (Nat.le_refl _)) rfl (IsSl.below HA9.out ((Below.refl _ _).alloc (Nat.le_refl _) _)) (by simp; omega) (by simp) ?_
                                    intro A1 d1 w10 H1
                                    obtain ⟨g1, rfl, hg1, hd1, he1, hat1⟩ := ArcsAt.ofOwn (by have := H1.out.1; rwa [List.nil_append] at this) hm1
                                    have HM1 := Lib.hid hat1
                                    have hb1 := ((Below.refl W9.heap.size W9).alloc (Nat.le_refl _) (.cells #[] 45)).trans H1.out.2.1
                                    have HB10 := Lib.hid (HB9.out.trans (hb1.mono HB9.out.size))
                                    have HX10 := Lib.hid ((hb1.block _ hbl).trans HX9.out)
                                    have HA10 := Lib.hid (IsSl.below HA9.out hb1)
                                    have hgl1 := hat1.lt
                                    have hbs1 := hb1.size
                                    replace hbl := lt_heap HX10.out
                                    replace c0 : w10.cell? ⟨w.heap.size, 0, none⟩ = some (.int .i64 n.vs) := cell_of HX10.out rfl
                                    replace c1 : w10.cell? ⟨w.heap.size, 1, none⟩ = some (.slice (some ⟨ba, off, none⟩) n.arcs.length c) := cell_of HX10.out rfl
                                    have HBv := Lib.hid (HBu.out.trans (hb1.mono HBu.out.size))
                                    clear hat1 hb1 H1)
            have hmk := HM1.out.cell hjl
            have hfk := HM1.out.frozen (j := j * 3 + 2)
            rw [HCJ.out] at hmk
            have hwk : IntKind.i64.wrap ((cp : Int) + 1) = (cp : Int) + 1 := IntWalk.i64_in _ (by omega)
            have hgw : w5.heap.size ≤ g1 := by have := HBu.out.size; omega
            have hbw5 : w.heap.size < w5.heap.size := lt_heap HX5.out
            have hw5 : w.heap.size ≤ w5.heap.size := by omega
            go_upto_region 24 with fail
            refine nameC fun W11 hW11 => ?_
            have hN1 := HM1.out.set hjl ((cp : Int) + 1)
            have HN1 : Hid (ArcsAt W11 g1 n (fun i => if i = j then capOf n i + 1 else capOf n i)) := Lib.hid (by
              rw [hW11.out]
              refine hN1.congr fun i hi => ?_
              by_cases q : i = j
              · rw [if_pos q, if_pos q, q, HCJ.out]
              · rw [if_neg q, if_neg q])
            have HB11 : Hid (Below w.heap.size w W11) := Lib.hid (by rw [hW11.out]; exact HB10.out.setCell (by show w.heap.size ≤ g1; omega) _)
            have HBW : Hid (Below w5.heap.size w5 W11) := Lib.hid (by rw [hW11.out]; exact HBv.out.setCell hgw _)
            have hX11 : W11.heap[w.heap.size]? = some (.cells #[.int .i64 n.vs, .slice (some ⟨ba, off, none⟩) n.arcs.length c] 24 (0, 0)) := by rw [hW11.out, heap_set_if, if_neg (by omega)]; exact HX10.out
            have c0 : W11.cell? ⟨w.heap.size, 0, none⟩ = some (.int .i64 n.vs) := cell_of hX11 rfl
            have HK1 : Hid (chkN (capN n (fun i => if i = j then capOf n i + 1 else capOf n i)) = true) := Lib.hid (capN_chk HCH.out fun i hi => by
              have h1 := cap_ok HCH.out hi
              have h3 := HCJ.out
              have h4 : capOf n i = (nthA n.arcs i).cap := rfl
              show 0 ≤ (if i = j then capOf n i + 1 else capOf n i) ∧ (if i = j then capOf n i + 1 else capOf n i) ≤ 1073741824
              by_cases q : i = j
              · rw [if_pos q]; rw [← q] at h3; omega
              · rw [if_neg q]; omega)
            clear hW11 hN1 hX11 hmk hfk hwk c1 HM1 HB10 HX10 HA10 HA9 HBu HBv hg1 hgl1 hbs1
            have CC := network_any W11 n.vs (some ⟨g1, 0, none⟩) n.arcs.length d1
            go_wp2_with fail
            refine CC.mono ?_
            rintro e w12 ⟨rfl, hb⟩
            have HBX := Lib.hid (HBW.out.trans (hb.mono HBW.out.size))
            replace HN1 := Lib.hid (HN1.out.keep (hb.block _ HN1.out.lt))
            clear hb CC c0 HBW
            have CC := max_yes w12 _ _ (capN n (fun i => if i = j then capOf n i + 1 else capOf n i)) ⟨_, rfl, HN1.out.isArcs (M := fun _ => True) trivial hd1 he1⟩ HK1.out
            go_wp2_with fail
            refine CC.mono ?_
            rintro e w13 ⟨V1, fl1, val1, sd1, v3, v4, hn1, rfl, hbest1, hi3, hi4, hb⟩
            obtain ⟨Af1, df1, rfl⟩ := ints_sl hi3 rfl
            obtain ⟨As1, ds1, rfl⟩ := ints_sl hi4 rfl
            obtain rfl := HBE.out.saturates HNO.out hbest1 hn1 hjl (by rw [← HY.out, HCJ.out]; exact h1) (fun i => rfl)
            have HBZ := Lib.hid (HBX.out.trans (hb.mono HBX.out.size))
            clear hi3 hi4 hbest1 hn1 hb CC
            go_wp2_with fail
            go_roundg (n.arcs.length - (j + 1))
            case measure => omega
            case rel => exact ⟨j + 1, by omega, rfl, by go_num, HBZ⟩
          · by_cases h1 : y < (cp : Int)
            · have h2 : ¬ (cp : Int) < 536870912 := fun h => hlt ⟨h1, h⟩
              go_quiet (fail)
              go_wp2_with fail
              go_roundg (n.arcs.length - (j + 1))
              case measure => omega
              case rel => exact ⟨j + 1, by omega, rfl, by go_num, Lib.hid (below_drewN HBz.out _)⟩
            · have h1d : decide (y < (cp : Int)) = false := decide_eq_false h1
              go_quiet (fail)
              go_wp2_with fail
              go_roundg (n.arcs.length - (j + 1))
              case measure => omega
              case rel => exact ⟨j + 1, by omega, rfl, by go_num, Lib.hid (below_drewN HBz.out _)⟩
        · have hnl : ¬ (j : Int) < (n.arcs.length : Int) := by omega
          go_wp2_with fail
          go_ret
          exact ⟨rfl, HB6.out⟩
end Go.Proofs.Ytikddknhcfhnbaa
