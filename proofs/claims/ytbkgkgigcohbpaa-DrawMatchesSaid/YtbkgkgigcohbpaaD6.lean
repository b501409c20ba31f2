import Derived.Test.YtbkgkgigcohbpaaD5
import Derived.Deep.DeepCutAuto
import Derived.WalkMore
import Derived.Deep.LoopGhost
namespace Go.Proofs.Ytbkgkgigcohbpaa
open Go.RowKit
theorem outcomeD_no {d : DrawD} {k : Nat} (h : checkB d = false) : outcomeD d k = ([], 260) := by unfold outcomeD; rw [h]; rfl
theorem outcomeD_never {d : DrawD} {k : Nat} (h : checkB d = true) (h0 : Rn (mayD d) (nD d) 0 = 0) : outcomeD d k = ([], 261) := by
  unfold outcomeD; rw [if_pos h, outsD_len, if_pos h0]
theorem outcomeD_arg {d : DrawD} {k : Nat} (h : checkB d = true) (h0 : ¬ Rn (mayD d) (nD d) 0 = 0) (h1 : Rn (mayD d) (nD d) 0 ≤ k) : outcomeD d k = ([], 1) := by
  unfold outcomeD; rw [if_pos h, outsD_len, if_neg h0, if_pos h1]
theorem outcomeD_yes {d : DrawD} {k : Nat} (h : checkB d = true) (h1 : k < Rn (mayD d) (nD d) 0) : outcomeD d k = (ofN ((outsD d).getD k []), 0) := by
  unfold outcomeD; rw [if_pos h, outsD_len, if_neg (by omega), if_neg (by omega)]
set_option maxHeartbeats 2000000 in
set_option maxRecDepth 8000 in
theorem outcome_any (w : World) (M : Nat → Prop) (v : Value) (d : DrawD) (h : IsDraw w M v d) (k0 : Nat) :
    Calls Try.prog 18 #[v, .int .u64 (k0 : Int)] w (IntsE w (outcomeD d k0)) := by
  have CK := fun W (hB : Below w.heap.size w W) => Lib.hid (check_any W M v d (h.below hB))
  have HD := Lib.hid h
  obtain ⟨v1, v2, v3, rfl, -, -, -⟩ := h
  cases hc : checkB d
  · have HC := Lib.hid (outcomeD_no (k := k0) hc)
    rw [checkD_no hc] at CK
    go_enter Try.func18, Try.ntmps18
    go_wp2_with fail
    go_step3
    go_wp2_with fail
    refine nameW fun W1 hW1 => ?_
    have hB1 : Below w.heap.size w W1 := by rw [hW1.out]; exact (Below.refl w.heap.size w).alloc (Nat.le_refl _) _
    refine (CK W1 hB1).out.mono ?_
    rintro e W2 ⟨rfl, hB2⟩
    clear hW1
    have HB := Lib.hid (hB1.trans (hB2.mono hB1.size))
    clear hB1 hB2
    go_wp2_with fail
    go_ret2
    exact ⟨.slice none 0 0, by rw [HC.out]; rfl, by rw [HC.out]; exact IsSl.nil, HB.out⟩
  · have hlen := checkB_len hc
    have HL := Lib.hid hlen
    rw [checkD_yes hc] at CK
    have CP := fun W (hB : Below w.heap.size w W) => Lib.hid (prepare_any W M _ d (HD.out.below hB) hc)
    have HCC := Lib.hid hc
    clear hc hlen
    go_enter Try.func18, Try.ntmps18
    go_wp2_with fail
    go_step3
    go_wp2_with fail
    refine nameW fun W1 hW1 => ?_
    have hB1 : Below w.heap.size w W1 := by rw [hW1.out]; exact (Below.refl w.heap.size w).alloc (Nat.le_refl _) _
    have hb1 : W1.heap[w.heap.size]? = some (.cells #[v1, v2, v3] 25 (0, 0)) := by rw [hW1.out, heap_alloc_if, if_pos rfl]
    refine (CK W1 hB1).out.mono ?_
    rintro e W2 ⟨rfl, hB2⟩
    have hb2 := (hB2.block w.heap.size (lt_heap hb1)).trans hb1
    have HB := Lib.hid (hB1.trans (hB2.mono hB1.size))
    have hx0 := cell_of (j := 0) hb2 rfl
    have hx1 := cell_of (j := 1) hb2 rfl
    have hx2 := cell_of (j := 2) hb2 rfl
    clear hB1 hB2 hW1 hb1 hb2
    go_wp2_with fail
    refine (CP W2 HB.out).out.mono ?_
    clear CP CK
    rintro e W3 ⟨g, rfl, ⟨br, bn, bd, hne, hcn, hmw⟩, hg, hB3⟩
    have HMW := Lib.hid hmw
    have HB3 := Lib.hid (HB.out.trans (hB3.mono HB.out.size))
    obtain ⟨n, hn⟩ : ∃ n, n = nD d := ⟨_, rfl⟩
    change CntW W3 g br (nD d) (2 ^ nD d) bn bd (Rn (mayD d) (nD d)) at hcn
    have hp0 : 0 < 2 ^ nD d := Nat.two_pow_pos _
    have hp16 : 2 ^ nD d ≤ 2 ^ 16 := Nat.pow_le_pow_right (by omega) HL.out.2.1
    rw [← hn] at hcn hp0 hp16
    have HN := Lib.hid hn
    obtain ⟨S, hS⟩ : ∃ S, S = 2 ^ n := ⟨_, rfl⟩
    rw [← hS] at hcn hp0 hp16
    have HS := Lib.hid hS
    have HCN := Lib.hid hcn
    have hcb := hcn.1
    have hc2 : W3.cell? ⟨g, 2, none⟩ = some (.slice (some ⟨br, 0, none⟩) S S) := cell_of (j := 2) hcb rfl
    have hc0 : W3.cell? ⟨g, 0, none⟩ = some (.int .i64 (n : Int)) := cell_of (j := 0) hcb rfl
    have hr0 := hcn.2.cell (i := 0) hp0
    have hp1 : (0 : Int) < (S : Int) := by omega
    obtain ⟨R0, hR0⟩ : ∃ R0, R0 = Rn (mayD d) n 0 := ⟨_, rfl⟩
    rw [← hR0] at hr0
    have HR0 := Lib.hid hR0
    clear hcb hcn hmw hx0 hx1 hx2 hB3 hn hS hR0
    by_cases hz : R0 = 0
    · have HC := Lib.hid (outcomeD_never (k := k0) HCC.out (by rw [← HN.out, ← HR0.out]; exact hz))
      subst hz
      go_wp2_with fail
      go_ret2
      exact ⟨.slice none 0 0, by rw [HC.out]; rfl, by rw [HC.out]; exact IsSl.nil, HB3.out⟩
    · have hz1 : ((R0 : Int) == 0) = false := by rw [beq_eq_false_iff_ne]; omega
      have hz2 : ¬ (R0 : Int) = 0 := by omega
      by_cases hk : R0 ≤ k0
      · have HC := Lib.hid (outcomeD_arg (k := k0) HCC.out (by rw [← HN.out, ← HR0.out]; exact hz) (by rw [← HN.out, ← HR0.out]; exact hk))
        have hk1 : (R0 : Int) ≤ (k0 : Int) := by omega
        clear hz
        go_wp2_with fail
        go_ret2
        exact ⟨.slice none 0 0, by rw [HC.out]; rfl, by rw [HC.out]; exact IsSl.nil, HB3.out⟩
      · have HC := Lib.hid (outcomeD_yes (k := k0) HCC.out (by rw [← HN.out, ← HR0.out]; omega))
        have hk1 : ¬ (R0 : Int) ≤ (k0 : Int) := by omega
        have HD0 := Lib.hid (Des.start (d := d) (k := k0) (by rw [← HN.out, ← HR0.out]; omega))
        have HCT := Lib.hid (show CntW W3 g br n S bn bd (Rn (mayD d) n) ∧ MayW W3 M bn bd d from ⟨HCN.out, HMW.out⟩)
        go_wp2_with fail
        clear hz hk1 hz1 hz2 hr0 hp1 HCN HMW hk hp0 HR0
        go_step3
        go_wp2_with fail
        obtain ⟨ii, hii, hz0, hz1, hz2⟩ := info_parts Try.info_int
        have HIU := Lib.hid (And.intro hii (And.intro hz0 (And.intro hz1 hz2)))
        clear hii hz0 hz1 hz2
        have hn16 : n ≤ 16 := HN.out ▸ HL.out.2.1
        go_loopg [1, 4, 8, 38] n (fun m q1 q4 q8 q38 wr => ∃ (i s k : Nat) (ps : List Nat), m + i = n ∧ q1 = .int .u64 (k : Int) ∧ q8 = .int .i64 (s : Int) ∧ q38 = .int .i64 (i : Int) ∧ Hid (Des d k0 ps i s k) ∧ Hid (wr.ownsRow W3.heap.size 3 1 q4 i ((ofN ps).map i64v)) ∧ Hid (Below W3.heap.size W3 wr))
        case atStart => exact ⟨0, 0, k0, [], by omega, rfl, rfl, rfl, HD0, Lib.hid (own_nil _ _ _ _), Lib.hid (Below.refl _ _)⟩
        case round =>
          obtain ⟨i, s, k, ps, hm, rfl, rfl, rfl, HDS, HO, HBW⟩ := hrel
          clear hc0 hc2
          have hcc := (HCT.out.1.below HBW.out).1
          have hc0 : wr.cell? ⟨g, 0, none⟩ = some (.int .i64 (n : Int)) := cell_of (j := 0) hcc rfl
          clear hcc
          by_cases hi : i < n
          · have hii : (i : Int) < (n : Int) := by omega
            go_wp2_with fail
            go_loopg [1, 4, 8, 45] n (fun m2 q1 q4 q8 q45 wx => ∃ j P : Nat, m2 + j = n ∧ q1 = .int .u64 (P : Int) ∧ q4 = u4 ∧ q8 = .int .i64 (s : Int) ∧ q45 = .int .i64 (j : Int) ∧ Hid (sumB (addK (mayD d) n s) j ≤ k ∧ P = k - sumB (addK (mayD d) n s) j) ∧ Hid (Dr wr wx))
            case atStart => exact ⟨0, k, by omega, rfl, rfl, rfl, rfl, Lib.hid ⟨Nat.zero_le _, rfl⟩, Lib.hid (Dr.refl _)⟩
            case round =>
              obtain ⟨j, P, hm2, rfl, e4, rfl, rfl, HSP, HDR⟩ := hrel
              subst e4
              have HBX := Lib.hid (HBW.out.trans (HDR.out.below.mono HBW.out.size))
              have HCX := Lib.hid (HCT.out.1.below HBX.out)
              have HMX := Lib.hid (HCT.out.2.below HBX.out)
              have hcc := HCX.out.1
              have hc0 := cell_of (j := 0) hcc rfl
              have hc1 := cell_of (j := 1) hcc rfl
              have hc2 : wr.cell? ⟨g, 2, none⟩ = some (.slice (some ⟨br, 0, none⟩) S S) := cell_of (j := 2) hcc rfl
              clear hcc
              by_cases hj : j < n
              · have hjj : (j : Int) < (n : Int) := by omega
                have hj0 : (0 : Int) ≤ (j : Int) := by omega
                have hs16 : s < 65536 := by have := HDS.out.set; rw [← HN.out, ← HS.out] at this; omega
                go_upto_region 16 with fail
                have HMY := Lib.hid (may_any wr M _ _ d HMX.out HL.out.2.2.2.1 HL.out.2.2.2.2 i j (show i < nD d by rw [← HN.out]; exact hi) (by rw [← HL.out.2.2.1, ← HN.out]; exact hj))
                go_cut [62] (fun c wx => c = .bool (s.testBit j || !mayD d i j) ∧ Hid (Dr wr wx))
                case first =>
                  by_cases hb : s.testBit j = true
                  · obtain ⟨Z, hZ, hZ0⟩ := band_yes hs16 (show j < 16 by omega) hb
                    clear HMY
                    go_wp2_with fail
                    go_meet
                    case rel => exact ⟨by rw [hb]; rfl, Dr.refl _⟩
                  · have hb : s.testBit j = false := by simpa using hb
                    have hZ := band_no hs16 (show j < 16 by omega) hb
                    go_wp2_with fail
                    refine HMY.out.mono ?_
                    rintro _ W ⟨rfl, hW⟩
                    go_wp2_with fail
                    go_meet
                    case rel => exact ⟨by rw [hb]; rfl, hW⟩
                case rest =>
                  obtain ⟨rfl, HD2⟩ := hcut
                  clear HMY hc0 hc1 hc2 HMX
                  have HDZ := Lib.hid (show Dr _ wc from by obtain ⟨n1, h1⟩ := HDR.out; obtain ⟨n2, h2⟩ := HD2.out; exact ⟨n1 + n2, by rw [h2, h1, World.drewN_drewN]⟩)
                  have HCY := Lib.hid (HCX.out.below HD2.out.below)
                  have hcc := HCY.out.1
                  have hc2 : wc.cell? ⟨g, 2, none⟩ = some (.slice (some ⟨br, 0, none⟩) S S) := cell_of (j := 2) hcc rfl
                  clear hcc HCX HBX HD2
                  cases hbm : (s.testBit j || !mayD d i j)
                  · rw [Bool.or_eq_false_iff, Bool.not_eq_false'] at hbm
                    have hbt := hbm.1
                    have hmy := hbm.2
                    have hor := bor_wth hs16 (show j < 16 by omega)
                    have hor2 := bor_wth2 hs16 (show j < 16 by omega)
                    have hadd : addK (mayD d) n s j = Rn (mayD d) n (wth s j) := addK_yes hbt (by rw [HN.out, HDS.out.pcn]; exact hmy)
                    have htS : wth s j < S := by rw [HS.out]; exact wth_lt (by rw [HN.out]; exact HDS.out.set) hj
                    have hrt := HCY.out.2.cell (i := wth s j) htS
                    have HADD := Lib.hid hadd
                    have HSJ := Lib.hid (show sumB (addK (mayD d) n s) (j + 1) = sumB (addK (mayD d) n s) j + Rn (mayD d) n (wth s j) by rw [sumB, hadd])
                    have HNX := Lib.hid (HDS.out.next (by rw [← HN.out]; exact hi) (by rw [← HN.out]; exact hj) hbt hmy)
                    rw [← HN.out] at HNX
                    clear hbm hbt hmy hadd
                    generalize hT : wth s j = t at *
                    generalize hR : Rn (mayD d) n t = R at *
                    clear hT hR
                    have ht0 : (0 : Int) ≤ (t : Int) := by omega
                    have ht1 : (t : Int) < (S : Int) := by omega
                    go_wp2_with fail
                    go_quiet (fail)
                    have HDW := Lib.hid (HDZ.out.drewN nq)
                    have HOW : Hid ((wc.drewN nq).ownsRow W3.heap.size 3 1 u4 i ((ofN ps).map i64v)) := by
                      obtain ⟨nz, hz⟩ := HDZ.out
                      rw [hz]; exact HO.out
                    have HBW2 := Lib.hid (HBW.out.trans (HDW.out.below.mono HBW.out.size))
                    clear HDZ HCY HO HDR hrt
                    generalize wc.drewN nq = wq at HDW HOW HBW2 ⊢
                    by_cases hRP : R ≤ P
                    · have hrp : (R : Int) ≤ (P : Int) := by omega
                      have hwr : IntKind.u64.wrap ((P : Int) - (R : Int)) = ((P - R : Nat) : Int) := by
                        have := (HDS.out.lt)
                        have h2 := Rn_le (may := mayD d) (n := nD d) s (by rw [← HN.out]; exact hn16)
                        have h3 := HSP.out.2
                        rw [IntKind.wrap_u64]; omega
                      go_wp2_with fail
                      go_roundg (gk - 1)
                      case measure => omega
                      case rel =>
                        have h1 := HSP.out.1
                        have h3 := HSP.out.2
                        exact ⟨j + 1, P - R, by omega, rfl, rfl, rfl, by go_num, Lib.hid (by rw [HSJ.out]; exact ⟨by omega, by omega⟩), HDW⟩
                    · have hrp : ¬ (R : Int) ≤ (P : Int) := by omega
                      have hszq := HBW2.out.size
                      go_wp2_with (at_builtin; refine wpList_append_cells _ rfl _ _ 22 rfl W3.heap.size 3 ii (.int .i64 0) 1 8 Try.underlying22 HIU.out.1 HIU.out.2.1 HIU.out.2.2.1 HIU.out.2.2.2 rfl (by decide) _ i _ rfl (HOW.out.alloc _) (some ⟨wq.heap.size, 0, none⟩) 1 1 [i64v (j : Int)] rfl rfl (fun _ => ⟨_, rfl, cell_one_new _ _ _⟩) (one_i64 _) (by unfold maxLen; omega) (by omega) (by simp; omega) ?_)
                      intro v7 w7 hown7 hgrow7 _
                      rw [ofN_snoc] at hown7
                      have HO7 := Lib.hid hown7
                      have HB7 := Lib.hid ((HBW2.out.alloc hszq _).grown hgrow7 (by simp; omega) (own_base HOW.out))
                      clear hown7 hgrow7
                      go_wp2_with fail
                      go_roundg (n - (i + 1))
                      case measure => omega
                      case rel => exact ⟨i + 1, t, P, ps ++ [j], by omega, rfl, rfl, by go_num, Lib.hid (by rw [HSP.out.2]; exact HNX.out HSP.out.1 (by have h3 := HSP.out.2; omega)), HO7, HB7⟩
                  · go_wp2_with fail
                    go_roundg (gk - 1)
                    case measure => omega
                    case rel =>
                      have ha : addK (mayD d) n s j = 0 := by
                        cases hb : s.testBit j
                        · rw [hb, Bool.false_or, Bool.not_eq_true'] at hbm
                          exact addK_no (by rw [HN.out, HDS.out.pcn]; exact hbm)
                        · exact addK_in hb
                      exact ⟨j + 1, P, by omega, rfl, rfl, rfl, by go_num, Lib.hid (by rw [sumB, ha, Nat.add_zero]; exact HSP.out), HDZ⟩
              · exfalso
                have := HDS.out.not_all (by rw [← HN.out]; exact hi)
                rw [← HN.out, show n = j by omega] at this
                have h2 := HSP.out.1
                rw [show n = j by omega] at h2
                omega
          · have hii : ¬ (i : Int) < (n : Int) := by omega
            go_wp2_with fail
            go_ret2
            have hin : i = nD d := by rw [← HN.out]; omega
            have hds := HDS.out
            rw [hin] at hds
            refine ⟨u4, by rw [HC.out]; rfl, ?_, HB3.out.trans (HBW.out.mono HB3.out.size)⟩
            rw [HC.out, hds.done]
            have ho := HO.out
            rw [show i = (ofN ps).length by rw [ofN_len, HDS.out.len]] at ho
            exact (IsInts.ofOwn ho).mono (fun b _ hb => Nat.le_trans HB3.out.size hb) (by decide)
end Go.Proofs.Ytbkgkgigcohbpaa
