import Derived.Test.YtgaanndidcdbpaaDwA
import Derived.Test.YtgaanndidcdbpaaZC
import Derived.Deep.DeepCutAuto
import Derived.WalkMore
import Derived.Deep.LoopGhost
namespace Go.Proofs.Ytgaanndidcdbpaa.Dw
open Go.RowKit
/-- ints and a code -/
def IntsE (w : World) (r : List Int × Int) (e : Ending) (w' : World) : Prop := ∃ v, e = .returned (.tuple #[v, .int .i64 r.2]) ∧ IsInts w' (fun b => w.heap.size ≤ b) v r.1 ∧ Below w.heap.size w w'
def ofN (l : List Nat) : List Int := l.map fun (x : Nat) => (x : Int)
/-- the outcomes of a draw -/
def outsD (d : DrawD) : List (List Nat) := On (mayD d) (nD d) 0
def outcomeD (d : DrawD) (k : Nat) : List Int × Int := if checkB d then (if (outsD d).length = 0 then ([], 261) else if (outsD d).length ≤ k then ([], 1) else (ofN ((outsD d).getD k []), 0)) else ([], 260)
theorem Try.info_int : (Try.prog.info? 3).map (fun i => (i.zero, i.size, i.bytes)) = some (some (.int .i64 0), 1, 8) := by kernel_rfl
theorem outsD_len (d : DrawD) : (outsD d).length = Rn (mayD d) (nD d) 0 := On_len 0
theorem ofN_snoc (l : List Nat) (j : Nat) : (ofN l).map i64v ++ [i64v (j : Int)] = (ofN (l ++ [j])).map i64v := by simp [ofN]
theorem ofN_len (l : List Nat) : (ofN l).length = l.length := by simp [ofN]
/-- where the search for an outcome stands: so many pairs, the set of the opponents, the number that is left -/
structure Des (d : DrawD) (k0 : Nat) (ps : List Nat) (i s k : Nat) : Prop where
  len : ps.length = i
  pcn : pcn s (nD d) = i
  set : s < 2 ^ nD d
  lt : k < Rn (mayD d) (nD d) s
  get : (outsD d)[k0]? = ((On (mayD d) (nD d) s)[k]?).map (ps ++ ·)
theorem Des.start {d : DrawD} {k : Nat} (h : k < Rn (mayD d) (nD d) 0) : Des d k [] 0 0 k :=
  ⟨rfl, pcn_zero _, Nat.two_pow_pos _, h, by unfold outsD; cases (On (mayD d) (nD d) 0)[k]? <;> rfl⟩
theorem Des.next {d : DrawD} {k0 : Nat} {ps : List Nat} {i s k j : Nat} (h : Des d k0 ps i s k) (hi : i < nD d) (hj : j < nD d) (hb : s.testBit j = false) (hm : mayD d i j = true)
    (h1 : sumB (addK (mayD d) (nD d) s) j ≤ k) (h2 : k - sumB (addK (mayD d) (nD d) s) j < Rn (mayD d) (nD d) (wth s j)) : Des d k0 (ps ++ [j]) (i + 1) (wth s j) (k - sumB (addK (mayD d) (nD d) s) j) := by
  have hp := h.pcn
  have ha := addK_yes (may := mayD d) (n := nD d) hb (by rw [hp]; exact hm)
  refine ⟨by rw [List.length_append, h.len]; rfl, by rw [pcn_wth hb, if_pos hj, hp], wth_lt h.set hj, h2, ?_⟩
  rw [h.get, On_get (by rw [hp]; exact hi) hj hb (by rw [hp]; exact hm) h1 (by rw [sumB, ha]; omega), Option.map_map]
  congr 1
  funext x
  simp
theorem Des.done {d : DrawD} {k0 : Nat} {ps : List Nat} {s k : Nat} (h : Des d k0 ps (nD d) s k) : (outsD d).getD k0 [] = ps := by
  have hk := h.lt
  rw [← On_len, On_full h.pcn] at hk
  have hg := h.get
  rw [On_full h.pcn, show k = 0 by simpa using hk] at hg
  rw [List.getD_eq_getElem?_getD, hg]
  simp
/-- in the midst of the sum there is a term that goes beyond -/
theorem Des.not_all {d : DrawD} {k0 : Nat} {ps : List Nat} {i s k : Nat} (h : Des d k0 ps i s k) (hi : i < nD d) : k < sumB (addK (mayD d) (nD d) s) (nD d) := by
  have hF : 2 ^ nD d = (2 ^ nD d - 1) + 1 := by have := Nat.two_pow_pos (nD d); omega
  have hl := h.lt
  have hs := h.set
  have hne : s ≠ 2 ^ nD d - 1 := by
    rintro rfl
    have := h.pcn
    rw [pcn_full _ _ (Nat.le_refl _)] at this
    omega
  rw [Rn_step hF (by omega)] at hl
  exact hl
end Go.Proofs.Ytgaanndidcdbpaa.Dw
namespace Go.Proofs.Ytgaanndidcdbpaa.Dw
open Go.RowKit
theorem outcomeD_no {d : DrawD} {k : Nat} (h : checkB d = false) : outcomeD d k = ([], 260) := by unfold outcomeD; rw [h]; rfl
theorem outcomeD_never {d : DrawD} {k : Nat} (h : checkB d = true) (h0 : Rn (mayD d) (nD d) 0 = 0) : outcomeD d k = ([], 261) := by
  unfold outcomeD; rw [if_pos h, outsD_len, if_pos h0]
theorem outcomeD_arg {d : DrawD} {k : Nat} (h : checkB d = true) (h0 : ¬ Rn (mayD d) (nD d) 0 = 0) (h1 : Rn (mayD d) (nD d) 0 ≤ k) : outcomeD d k = ([], 1) := by
  unfold outcomeD; rw [if_pos h, outsD_len, if_neg h0, if_pos h1]
theorem outcomeD_yes {d : DrawD} {k : Nat} (h : checkB d = true) (h1 : k < Rn (mayD d) (nD d) 0) : outcomeD d k = (ofN ((outsD d).getD k []), 0) := by
  unfold outcomeD; rw [if_pos h, outsD_len, if_neg (by omega), if_neg (by omega)]
set_option maxHeartbeats 2000000 in
set_option maxRecDepth 8000 in
theorem outcome_any (w : World) (M : Nat → Prop) (v : Value) (d : DrawD) (h : IsDraw w M v d) (k0 : Nat) :
    Calls Try.prog 25 #[v, .int .u64 (k0 : Int)] w (IntsE w (outcomeD d k0)) := by
  have CK := fun W (hB : Below w.heap.size w W) => Lib.hid (check_any W M v d (h.below hB))
  have HD := Lib.hid h
  obtain ⟨v1, v2, v3, rfl, -, -, -⟩ := h
  cases hc : checkB d
  · have HC := Lib.hid (outcomeD_no (k := k0) hc)
    rw [checkD_no hc] at CK
    go_enter Try.func25, Try.ntmps25
    go_wp2_with fail
    go_step3
    go_wp2_with fail
    refine nameW fun W1 hW1 => ?_
    have hB1 : Below w.heap.size w W1 := by rw [hW1.out]; exact (Below.refl w.heap.size w).alloc (Nat.le_refl _) _
    refine (CK W1 hB1).out.mono ?_
    rintro e W2 ⟨rfl, hB2⟩
    clear hW1
    have HB := Lib.hid (hB1.trans (hB2.mono hB1.size))
    clear hB1 hB2
    go_wp2_with fail
    go_ret2
    exact ⟨.slice none 0 0, by rw [HC.out]; rfl, by rw [HC.out]; exact IsSl.nil, HB.out⟩
  · have hlen := checkB_len hc
    have HL := Lib.hid hlen
    rw [checkD_yes hc] at CK
    have CP := fun W (hB : Below w.heap.size w W) => Lib.hid (prepare_any W M _ d (HD.out.below hB) hc)
    have HCC := Lib.hid hc
    clear hc hlen
    go_enter Try.func25, Try.ntmps25
    go_wp2_with fail
    go_step3
    go_wp2_with fail
    refine nameW fun W1 hW1 => ?_
    have hB1 : Below w.heap.size w W1 := by rw [hW1.out]; exact (Below.refl w.heap.size w).alloc (Nat.le_refl _) _
    have hb1 : W1.heap[w.heap.size]? = some (.cells #[v1, v2, v3] 73 (0, 0)) := by rw [hW1.out, heap_alloc_if, if_pos rfl]
    refine (CK W1 hB1).out.mono ?_
    rintro e W2 ⟨rfl, hB2⟩
    have hb2 := (hB2.block w.heap.size (lt_heap hb1)).trans hb1
    have HB := Lib.hid (hB1.trans (hB2.mono hB1.size))
    have hx0 := cell_of (j := 0) hb2 rfl
    have hx1 := cell_of (j := 1) hb2 rfl
    have hx2 := cell_of (j := 2) hb2 rfl
    clear hB1 hB2 hW1 hb1 hb2
    go_wp2_with fail
    refine (CP W2 HB.out).out.mono ?_
    clear CP CK
    rintro e W3 ⟨g, rfl, ⟨br, bn, bd, hne, hcn, hmw⟩, hg, hB3⟩
    have HMW := Lib.hid hmw
    have HB3 := Lib.hid (HB.out.trans (hB3.mono HB.out.size))
    obtain ⟨n, hn⟩ : ∃ n, n = nD d := ⟨_, rfl⟩
    change CntW W3 g br (nD d) (2 ^ nD d) bn bd (Rn (mayD d) (nD d)) at hcn
    have hp0 : 0 < 2 ^ nD d := Nat.two_pow_pos _
    have hp16 : 2 ^ nD d ≤ 2 ^ 16 := Nat.pow_le_pow_right (by omega) HL.out.2.1
    rw [← hn] at hcn hp0 hp16
    have HN := Lib.hid hn
    obtain ⟨S, hS⟩ : ∃ S, S = 2 ^ n := ⟨_, rfl⟩
    rw [← hS] at hcn hp0 hp16
    have HS := Lib.hid hS
    have HCN := Lib.hid hcn
    have hcb := hcn.1
    have hc2 : W3.cell? ⟨g, 2, none⟩ = some (.slice (some ⟨br, 0, none⟩) S S) := cell_of (j := 2) hcb rfl
    have hc0 : W3.cell? ⟨g, 0, none⟩ = some (.int .i64 (n : Int)) := cell_of (j := 0) hcb rfl
    have hr0 := hcn.2.cell (i := 0) hp0
    have hp1 : (0 : Int) < (S : Int) := by omega
    obtain ⟨R0, hR0⟩ : ∃ R0, R0 = Rn (mayD d) n 0 := ⟨_, rfl⟩
    rw [← hR0] at hr0
    have HR0 := Lib.hid hR0
    clear hcb hcn hmw hx0 hx1 hx2 hB3 hn hS hR0
    by_cases hz : R0 = 0
    · have HC := Lib.hid (outcomeD_never (k := k0) HCC.out (by rw [← HN.out, ← HR0.out]; exact hz))
      subst hz
      go_wp2_with fail
      go_ret2
      exact ⟨.slice none 0 0, by rw [HC.out]; rfl, by rw [HC.out]; exact IsSl.nil, HB3.out⟩
    · have hz1 : ((R0 : Int) == 0) = false := by rw [beq_eq_false_iff_ne]; omega
      have hz2 : ¬ (R0 : Int) = 0 := by omega
      by_cases hk : R0 ≤ k0
      · have HC := Lib.hid (outcomeD_arg (k := k0) HCC.out (by rw [← HN.out, ← HR0.out]; exact hz) (by rw [← HN.out, ← HR0.out]; exact hk))
        have hk1 : (R0 : Int) ≤ (k0 : Int) := by omega
        clear hz
        go_wp2_with fail
        go_ret2
        exact ⟨.slice none 0 0, by rw [HC.out]; rfl, by rw [HC.out]; exact IsSl.nil, HB3.out⟩
      · have HC := Lib.hid (outcomeD_yes (k := k0) HCC.out (by rw [← HN.out, ← HR0.out]; omega))
        have hk1 : ¬ (R0 : Int) ≤ (k0 : Int) := by omega
        have HD0 := Lib.hid (Des.start (d := d) (k := k0) (by rw [← HN.out, ← HR0.out]; omega))
        have HCT := Lib.hid (show CntW W3 g br n S bn bd (Rn (mayD d) n) ∧ MayW W3 M bn bd d from ⟨HCN.out, HMW.out⟩)
        go_wp2_with fail
        clear hz hk1 hz1 hz2 hr0 hp1 HCN HMW hk hp0 HR0
        go_step3
        go_wp2_with fail
        obtain ⟨ii, hii, hz0, hz1, hz2⟩ := info_parts Try.info_int
        have HIU := Lib.hid (And.intro hii (And.intro hz0 (And.intro hz1 hz2)))
        clear hii hz0 hz1 hz2
        have hn16 : n ≤ 16 := HN.out ▸ HL.out.2.1
        go_loopg [1, 4, 8, 38] n (fun m q1 q4 q8 q38 wr => ∃ (i s k : Nat) (ps : List Nat), m + i = n ∧ q1 = .int .u64 (k : Int) ∧ q8 = .int .i64 (s : Int) ∧ q38 = .int .i64 (i : Int) ∧ Hid (Des d k0 ps i s k) ∧ Hid (wr.ownsRow W3.heap.size 3 1 q4 i ((ofN ps).map i64v)) ∧ Hid (Below W3.heap.size W3 wr))
        case atStart => exact ⟨0, 0, k0, [], by omega, rfl, rfl, rfl, HD0, Lib.hid (own_nil _ _ _ _), Lib.hid (Below.refl _ _)⟩
        case round =>
          obtain ⟨i, s, k, ps, hm, rfl, rfl, rfl, HDS, HO, HBW⟩ := hrel
          clear hc0 hc2
          have hcc := (HCT.out.1.below HBW.out).1
          have hc0 : wr.cell? ⟨g, 0, none⟩ = some (.int .i64 (n : Int)) := cell_of (j := 0) hcc rfl
          clear hcc
          by_cases hi : i < n
          · have hii : (i : Int) < (n : Int) := by omega
            go_wp2_with fail
            go_loopg [1, 4, 8, 45] n (fun m2 q1 q4 q8 q45 wx => ∃ j P : Nat, m2 + j = n ∧ q1 = .int .u64 (P : Int) ∧ q4 = u4 ∧ q8 = .int .i64 (s : Int) ∧ q45 = .int .i64 (j : Int) ∧ Hid (sumB (addK (mayD d) n s) j ≤ k ∧ P = k - sumB (addK (mayD d) n s) j) ∧ Hid (Dr wr wx))
            case atStart => exact ⟨0, k, by omega, rfl, rfl, rfl, rfl, Lib.hid ⟨Nat.zero_le _, rfl⟩, Lib.hid (Dr.refl _)⟩
            case round =>
              obtain ⟨j, P, hm2, rfl, e4, rfl, rfl, HSP, HDR⟩ := hrel
              subst e4
              have HBX := Lib.hid (HBW.out.trans (HDR.out.below.mono HBW.out.size))
              have HCX := Lib.hid (HCT.out.1.below HBX.out)
              have HMX := Lib.hid (HCT.out.2.below HBX.out)
              have hcc := HCX.out.1
              have hc0 := cell_of (j := 0) hcc rfl
              have hc1 := cell_of (j := 1) hcc rfl
              have hc2 : wr.cell? ⟨g, 2, none⟩ = some (.slice (some ⟨br, 0, none⟩) S S) := cell_of (j := 2) hcc rfl
              clear hcc
              by_cases hj : j < n
              · have hjj : (j : Int) < (n : Int) := by omega
                have hj0 : (0 : Int) ≤ (j : Int) := by omega
                have hs16 : s < 65536 := by have := HDS.out.set; rw [← HN.out, ← HS.out] at this; omega
                go_upto_region 16 with fail
                have HMY := Lib.hid (may_any wr M _ _ d HMX.out HL.out.2.2.2.1 HL.out.2.2.2.2 i j (show i < nD d by rw [← HN.out]; exact hi) (by rw [← HL.out.2.2.1, ← HN.out]; exact hj))
                go_cut [62] (fun c wx => c = .bool (s.testBit j || !mayD d i j) ∧ Hid (Dr wr wx))
                case first =>
                  by_cases hb : s.testBit j = true
                  · obtain ⟨Z, hZ, hZ0⟩ := band_yes hs16 (show j < 16 by omega) hb
                    clear HMY
                    go_wp2_with fail
                    go_meet
                    case rel => exact ⟨by rw [hb]; rfl, Dr.refl _⟩
                  · have hb : s.testBit j = false := by simpa using hb
                    have hZ := band_no hs16 (show j < 16 by omega) hb
                    go_wp2_with fail
                    refine HMY.out.mono ?_
                    rintro _ W ⟨rfl, hW⟩
                    go_wp2_with fail
                    go_meet
                    case rel => exact ⟨by rw [hb]; rfl, hW⟩
                case rest =>
                  obtain ⟨rfl, HD2⟩ := hcut
                  clear HMY hc0 hc1 hc2 HMX
                  have HDZ := Lib.hid (show Dr _ wc from by obtain ⟨n1, h1⟩ := HDR.out; obtain ⟨n2, h2⟩ := HD2.out; exact ⟨n1 + n2, by rw [h2, h1, World.drewN_drewN]⟩)
                  have HCY := Lib.hid (HCX.out.below HD2.out.below)
                  have hcc := HCY.out.1
                  have hc2 : wc.cell? ⟨g, 2, none⟩ = some (.slice (some ⟨br, 0, none⟩) S S) := cell_of (j := 2) hcc rfl
                  clear hcc HCX HBX HD2
                  cases hbm : (s.testBit j || !mayD d i j)
                  · rw [Bool.or_eq_false_iff, Bool.not_eq_false'] at hbm
                    have hbt := hbm.1
                    have hmy := hbm.2
                    have hor := bor_wth hs16 (show j < 16 by omega)
                    have hor2 := bor_wth2 hs16 (show j < 16 by omega)
                    have hadd : addK (mayD d) n s j = Rn (mayD d) n (wth s j) := addK_yes hbt (by rw [HN.out, HDS.out.pcn]; exact hmy)
                    have htS : wth s j < S := by rw [HS.out]; exact wth_lt (by rw [HN.out]; exact HDS.out.set) hj
                    have hrt := HCY.out.2.cell (i := wth s j) htS
                    have HADD := Lib.hid hadd
                    have HSJ := Lib.hid (show sumB (addK (mayD d) n s) (j + 1) = sumB (addK (mayD d) n s) j + Rn (mayD d) n (wth s j) by rw [sumB, hadd])
                    have HNX := Lib.hid (HDS.out.next (by rw [← HN.out]; exact hi) (by rw [← HN.out]; exact hj) hbt hmy)
                    rw [← HN.out] at HNX
                    clear hbm hbt hmy hadd
                    generalize hT : wth s j = t at *
                    generalize hR : Rn (mayD d) n t = R at *
                    clear hT hR
                    have ht0 : (0 : Int) ≤ (t : Int) := by omega
                    have ht1 : (t : Int) < (S : Int) := by omega
                    go_wp2_with fail
                    go_quiet (fail)
                    have HDW := Lib.hid (HDZ.out.drewN nq)
                    have HOW : Hid ((wc.drewN nq).ownsRow W3.heap.size 3 1 u4 i ((ofN ps).map i64v)) := by
                      obtain ⟨nz, hz⟩ := HDZ.out
                      rw [hz]; exact HO.out
                    have HBW2 := Lib.hid (HBW.out.trans (HDW.out.below.mono HBW.out.size))
                    clear HDZ HCY HO HDR hrt
                    generalize wc.drewN nq = wq at HDW HOW HBW2 ⊢
                    by_cases hRP : R ≤ P
                    · have hrp : (R : Int) ≤ (P : Int) := by omega
                      have hwr : IntKind.u64.wrap ((P : Int) - (R : Int)) = ((P - R : Nat) : Int) := by
                        have := (HDS.out.lt)
                        have h2 := Rn_le (may := mayD d) (n := nD d) s (by rw [← HN.out]; exact hn16)
                        have h3 := HSP.out.2
                        rw [IntKind.wrap_u64]; omega
                      go_wp2_with fail
                      go_roundg (gk - 1)
                      case measure => omega
                      case rel =>
                        have h1 := HSP.out.1
                        have h3 := HSP.out.2
                        exact ⟨j + 1, P - R, by omega, rfl, rfl, rfl, by go_num, Lib.hid (by rw [HSJ.out]; exact ⟨by omega, by omega⟩), HDW⟩
                    · have hrp : ¬ (R : Int) ≤ (P : Int) := by omega
                      have hszq := HBW2.out.size
                      go_wp2_with (at_builtin; refine wpList_append_cells _ rfl _ _ 22 rfl W3.heap.size 3 ii (.int .i64 0) 1 8 Try.underlying22 HIU.out.1 HIU.out.2.1 HIU.out.2.2.1 HIU.out.2.2.2 rfl (by decide) _ i _ rfl (HOW.out.alloc _) (some ⟨wq.heap.size, 0, none⟩) 1 1 [i64v (j : Int)] rfl rfl (fun _ => ⟨_, rfl, cell_one_new _ _ _⟩) (one_i64 _) (by unfold maxLen; omega) (by omega) (by simp; omega) ?_)
                      intro v7 w7 hown7 hgrow7 _
                      rw [ofN_snoc] at hown7
                      have HO7 := Lib.hid hown7
                      have HB7 := Lib.hid ((HBW2.out.alloc hszq _).grown hgrow7 (by simp; omega) (own_base HOW.out))
                      clear hown7 hgrow7
                      go_wp2_with fail
                      go_roundg (n - (i + 1))
                      case measure => omega
                      case rel => exact ⟨i + 1, t, P, ps ++ [j], by omega, rfl, rfl, by go_num, Lib.hid (by rw [HSP.out.2]; exact HNX.out HSP.out.1 (by have h3 := HSP.out.2; omega)), HO7, HB7⟩
                  · go_wp2_with fail
                    go_roundg (gk - 1)
                    case measure => omega
                    case rel =>
                      have ha : addK (mayD d) n s j = 0 := by
                        cases hb : s.testBit j
                        · rw [hb, Bool.false_or, Bool.not_eq_true'] at hbm
                          exact addK_no (by rw [HN.out, HDS.out.pcn]; exact hbm)
                        · exact addK_in hb
                      exact ⟨j + 1, P, by omega, rfl, rfl, rfl, by go_num, Lib.hid (by rw [sumB, ha, Nat.add_zero]; exact HSP.out), HDZ⟩
              · exfalso
                have := HDS.out.not_all (by rw [← HN.out]; exact hi)
                rw [← HN.out, show n = j by omega] at this
                have h2 := HSP.out.1
                rw [show n = j by omega] at h2
                omega
          · have hii : ¬ (i : Int) < (n : Int) := by omega
            go_wp2_with fail
            go_ret2
            have hin : i = nD d := by rw [← HN.out]; omega
            have hds := HDS.out
            rw [hin] at hds
            refine ⟨u4, by rw [HC.out]; rfl, ?_, HB3.out.trans (HBW.out.mono HB3.out.size)⟩
            rw [HC.out, hds.done]
            have ho := HO.out
            rw [show i = (ofN ps).length by rw [ofN_len, HDS.out.len]] at ho
            exact (IsInts.ofOwn ho).mono (fun b _ hb => Nat.le_trans HB3.out.size hb) (by decide)
end Go.Proofs.Ytgaanndidcdbpaa.Dw
namespace Go.Proofs.Ytgaanndidcdbpaa.Dw
open Go.RowKit
/-- the number of an outcome -/
def numF (d : DrawD) (ps : List Int) (i : Nat) : Bool := decide (ofN ((outsD d).getD i []) = ps)
def numberD (d : DrawD) (ps : List Int) : Nat × Int := if checkB d then (if 0 ≤ idxF (numF d ps) (outsD d).length then ((idxF (numF d ps) (outsD d).length).toNat, 0) else (0, 1)) else (0, 260)
theorem ofN_inj {a b : List Nat} (h : ofN a = ofN b) : a = b := (List.map_inj_right (fun _ _ h => Int.ofNat.inj h)).1 h
theorem numberD_bad {d : DrawD} {ps : List Int} (h : checkB d = false) : numberD d ps = (0, 260) := by unfold numberD; rw [h]; rfl
theorem numberD_not {d : DrawD} {ps : List Int} (h : checkB d = true) (hn : ∀ x ∈ outsD d, ofN x ≠ ps) : numberD d ps = (0, 1) := by
  unfold numberD
  rw [if_pos h, idxF_none (fun j hj => ?_)]
  · rfl
  · unfold numF
    rw [List.getD_eq_getElem?_getD, List.getElem?_eq_getElem hj]
    exact decide_eq_false (hn _ (List.getElem_mem hj))
theorem numberD_at {d : DrawD} {ps : List Int} {k : Nat} {x : List Nat} (h : checkB d = true) (hk : (outsD d)[k]? = some x) (hx : ofN x = ps) : numberD d ps = (k, 0) := by
  obtain ⟨hl, hk'⟩ := List.getElem?_eq_some_iff.1 hk
  have hf : idxF (numF d ps) (outsD d).length = k := by
    refine idxF_some hl ?_ fun j hj => ?_
    · unfold numF
      rw [List.getD_eq_getElem?_getD, hk]
      exact decide_eq_true hx
    · unfold numF
      rw [List.getD_eq_getElem?_getD, List.getElem?_eq_getElem (by omega)]
      refine decide_eq_false fun e => ?_
      have he : (outsD d)[j] = x := by
        have hm : ofN (outsD d)[j] = ofN x := by rw [hx]; exact e
        exact ofN_inj hm
      have := (sorted_get (l := outsD d) (outs_sorted ..) (List.getElem?_eq_getElem (show j < _ by omega)) hk).1.1 he
      omega
  unfold numberD
  rw [if_pos h, hf, if_pos (by omega)]
  rfl
def setOf (l : List Nat) (s : Nat) : Nat := l.foldl wth s
theorem okL_append (may : Nat → Nat → Bool) (n : Nat) : ∀ (a b : List Nat) (i s : Nat), okL may n i s (a ++ b) = (okL may n i s a && okL may n (i + a.length) (setOf a s) b)
  | [], b, i, s => by simp [okL, setOf]
  | k :: a, b, i, s => by
    rw [List.cons_append, okL, okL, okL_append may n a b, List.length_cons, show i + (a.length + 1) = i + 1 + a.length by omega]
    simp only [Bool.and_assoc]
    rfl
/-- where the reckoning of a number stands -/
structure Num (d : DrawD) (ps : List Int) (qs : List Nat) (i s k : Nat) : Prop where
  len : qs.length = i
  take : ofN qs = ps.take i
  cnt : pcn s (nD d) = i
  set : s < 2 ^ nD d
  sets : s = setOf qs 0
  bound : k + Rn (mayD d) (nD d) s ≤ Rn (mayD d) (nD d) 0
  get : ∀ t, t < Rn (mayD d) (nD d) s → (outsD d)[k + t]? = ((On (mayD d) (nD d) s)[t]?).map (qs ++ ·)
theorem Num.start (d : DrawD) (ps : List Int) : Num d ps [] 0 0 0 :=
  ⟨rfl, rfl, pcn_zero _, Nat.two_pow_pos _, rfl, by omega, fun t _ => by rw [Nat.zero_add]; unfold outsD; cases (On (mayD d) (nD d) 0)[t]? <;> rfl⟩
theorem step_sum {d : DrawD} {s i : Nat} (hp : pcn s (nD d) = i) (hs : s < 2 ^ nD d) (hi : i < nD d) : Rn (mayD d) (nD d) s = sumB (addK (mayD d) (nD d) s) (nD d) := by
  have hF : 2 ^ nD d = (2 ^ nD d - 1) + 1 := by have := Nat.two_pow_pos (nD d); omega
  have hne : s ≠ 2 ^ nD d - 1 := by
    rintro rfl
    rw [pcn_full _ _ (Nat.le_refl _)] at hp
    omega
  exact Rn_step hF (by omega)
theorem Num.next {d : DrawD} {ps : List Int} {qs : List Nat} {i s k j : Nat} (h : Num d ps qs i s k) (hi : i < nD d) (hl : i < ps.length) (hj : j < nD d) (hp : ps[i]? = some (j : Int)) (hb : s.testBit j = false) (hm : mayD d i j = true) :
    Num d ps (qs ++ [j]) (i + 1) (wth s j) (k + sumB (addK (mayD d) (nD d) s) j) := by
  have hpc := h.cnt
  have ha := addK_yes (may := mayD d) (n := nD d) hb (by rw [hpc]; exact hm)
  have hsum := step_sum hpc h.set hi
  have hmono := sumB_mono (f := addK (mayD d) (nD d) s) (show j + 1 ≤ nD d by omega)
  have hsj : sumB (addK (mayD d) (nD d) s) (j + 1) = sumB (addK (mayD d) (nD d) s) j + Rn (mayD d) (nD d) (wth s j) := by rw [sumB, ha]
  refine ⟨by rw [List.length_append, h.len]; rfl, ?_, by rw [pcn_wth hb, if_pos hj, hpc], wth_lt h.set hj, ?_, ?_, fun t ht => ?_⟩
  · obtain ⟨hl', he⟩ := List.getElem?_eq_some_iff.1 hp
    rw [List.take_succ_eq_append_getElem hl, he, ← h.take]
    simp [ofN]
  · unfold setOf
    rw [List.foldl_append]
    show wth s j = wth (setOf qs 0) j
    rw [← h.sets]
  · have := h.bound; omega
  · rw [Nat.add_assoc, h.get _ (by omega), On_get (by rw [hpc]; exact hi) hj hb (by rw [hpc]; exact hm) (by omega) (by omega), Nat.add_sub_cancel_left, Option.map_map]
    congr 1
    funext x
    simp
theorem Num.bad {d : DrawD} {ps : List Int} {qs : List Nat} {i s k : Nat} (h : Num d ps qs i s k) (hl : i < ps.length) (hb : ∀ j : Nat, ps[i]? = some (j : Int) → j < nD d → s.testBit j = false → mayD d i j = false) : ∀ x ∈ outsD d, ofN x ≠ ps := by
  intro x hx e
  obtain ⟨h1, h2⟩ := mem_outs.1 (show x ∈ outs (mayD d) (nD d) (nD d - pcn 0 (nD d)) (pcn 0 (nD d)) 0 from hx)
  have hxl : x.length = ps.length := by rw [← e, ofN_len]
  have htk : ofN (x.take i) = ofN qs := by rw [h.take, ← e]; simp [ofN]
  have htk2 : x.take i = qs := ofN_inj htk
  have hd : x = qs ++ x[i]'(by omega) :: x.drop (i + 1) := by
    rw [← htk2]
    have := (List.take_append_drop i x).symm
    rw [List.drop_eq_getElem_cons (show i < x.length by omega)] at this
    exact this
  rw [hd, pcn_zero, okL_append, h.len, ← h.sets, okL, Bool.and_eq_true, Bool.and_eq_true, Bool.and_eq_true, Bool.and_eq_true, decide_eq_true_eq, Bool.not_eq_true', Nat.zero_add] at h2
  have hpi : (ofN x)[i]? = some ((x[i]'(by omega) : Nat) : Int) := by
    unfold ofN
    rw [List.getElem?_map, List.getElem?_eq_getElem (show i < x.length by omega)]; rfl
  rw [e] at hpi
  have := hb _ hpi h2.2.1.1 h2.2.1.2.1
  rw [this] at h2
  exact absurd h2.2.1.2.2 (by decide)
theorem Num.done {d : DrawD} {ps : List Int} {qs : List Nat} {s k : Nat} (h : Num d ps qs (nD d) s k) (hc : checkB d = true) (hl : ps.length = nD d) : numberD d ps = (k, 0) := by
  have hg := h.get 0 (by rw [← On_len, On_full h.cnt]; exact Nat.one_pos)
  rw [On_full h.cnt] at hg
  exact numberD_at hc (x := qs) (by rw [Nat.add_zero] at hg; rw [hg]; simp) (by rw [h.take, List.take_of_length_le (by omega)])
theorem number_len {d : DrawD} {ps : List Int} (hl : ps.length ≠ nD d) : ∀ x ∈ outsD d, ofN x ≠ ps := by
  intro x hx e
  obtain ⟨h1, -⟩ := mem_outs.1 (show x ∈ outs (mayD d) (nD d) (nD d - pcn 0 (nD d)) (pcn 0 (nD d)) 0 from hx)
  rw [pcn_zero] at h1
  apply hl
  rw [← e, ofN_len, h1]; rfl
end Go.Proofs.Ytgaanndidcdbpaa.Dw
namespace Go.Proofs.Ytgaanndidcdbpaa.Dw
open Go.RowKit
def badP (d : DrawD) (s i : Nat) (p : Int) : Bool := decide (p < 0) || (decide ((nD d : Int) ≤ p) || (s.testBit p.toNat || !mayD d i p.toNat))
theorem badP_no {d : DrawD} {s i : Nat} {p : Int} (h : badP d s i p = false) : ∃ q : Nat, p = (q : Int) ∧ q < nD d ∧ s.testBit q = false ∧ mayD d i q = true := by
  unfold badP at h
  rw [Bool.or_eq_false_iff, Bool.or_eq_false_iff, Bool.or_eq_false_iff, decide_eq_false_iff_not, decide_eq_false_iff_not, Bool.not_eq_false'] at h
  exact ⟨p.toNat, by omega, by omega, h.2.2.1, h.2.2.2⟩
theorem badP_yes {d : DrawD} {s i : Nat} {j : Nat} (h : badP d s i (j : Int) = true) (hj : j < nD d) (hb : s.testBit j = false) : mayD d i j = false := by
  unfold badP at h
  rw [decide_eq_false (by omega), decide_eq_false (by omega), Int.toNat_natCast, hb] at h
  simpa using h
set_option maxHeartbeats 2000000 in
set_option maxRecDepth 8000 in
theorem number_any (w : World) (M : Nat → Prop) (v vp : Value) (d : DrawD) (ps : List Int) (h : IsDraw w M v d) (hp : IsInts w M vp ps) :
    Calls Try.prog 26 #[v, vp] w (NumE w (numberD d ps)) := by
  have CK := fun W (hB : Below w.heap.size w W) => Lib.hid (check_any W M v d (h.below hB))
  have HD := Lib.hid h
  have HP := Lib.hid hp
  obtain ⟨v1, v2, v3, rfl, -, -, -⟩ := h
  obtain ⟨A, c, rfl, hl1, hl2, -⟩ := hp
  cases hc : checkB d
  · have HC := Lib.hid (numberD_bad (ps := ps) hc)
    rw [checkD_no hc] at CK
    go_enter Try.func26, Try.ntmps26
    go_wp2_with fail
    refine nameW fun W1 hW1 => ?_
    have hB1 : Below w.heap.size w W1 := by rw [hW1.out]; exact (Below.refl w.heap.size w).alloc (Nat.le_refl _) _
    refine (CK W1 hB1).out.mono ?_
    rintro e W2 ⟨rfl, hB2⟩
    clear hW1
    have HB := Lib.hid (hB1.trans (hB2.mono hB1.size))
    clear hB1 hB2
    go_wp2_with fail
    go_ret2
    exact ⟨by rw [HC.out]; rfl, HB.out⟩
  · have hlen := checkB_len hc
    have HL := Lib.hid hlen
    rw [checkD_yes hc] at CK
    have CP := fun W (hB : Below w.heap.size w W) => Lib.hid (prepare_any W M _ d (HD.out.below hB) hc)
    have HCC := Lib.hid hc
    clear hc hlen
    go_enter Try.func26, Try.ntmps26
    go_wp2_with fail
    refine nameW fun W1 hW1 => ?_
    have hB1 : Below w.heap.size w W1 := by rw [hW1.out]; exact (Below.refl w.heap.size w).alloc (Nat.le_refl _) _
    have hb1 : W1.heap[w.heap.size]? = some (.cells #[v1, v2, v3] 73 (0, 0)) := by rw [hW1.out, heap_alloc_if, if_pos rfl]
    refine (CK W1 hB1).out.mono ?_
    rintro e W2 ⟨rfl, hB2⟩
    have hb2 := (hB2.block w.heap.size (lt_heap hb1)).trans hb1
    have HB := Lib.hid (hB1.trans (hB2.mono hB1.size))
    have hx0 := cell_of (j := 0) hb2 rfl
    have hx1 := cell_of (j := 1) hb2 rfl
    have hx2 := cell_of (j := 2) hb2 rfl
    clear hB1 hB2 hW1 hb1 hb2
    go_wp2_with fail
    refine (CP W2 HB.out).out.mono ?_
    clear CP CK
    rintro e W3 ⟨g, rfl, ⟨br, bn, bd, hne, hcn, hmw⟩, hg, hB3⟩
    have HB3 := Lib.hid (HB.out.trans (hB3.mono HB.out.size))
    obtain ⟨n, hn⟩ : ∃ n, n = nD d := ⟨_, rfl⟩
    change CntW W3 g br (nD d) (2 ^ nD d) bn bd (Rn (mayD d) (nD d)) at hcn
    have hp0 : 0 < 2 ^ nD d := Nat.two_pow_pos _
    have hp16 : 2 ^ nD d ≤ 2 ^ 16 := Nat.pow_le_pow_right (by omega) HL.out.2.1
    rw [← hn] at hcn hp0 hp16
    have HN := Lib.hid hn
    obtain ⟨S, hS⟩ : ∃ S, S = 2 ^ n := ⟨_, rfl⟩
    rw [← hS] at hcn hp0 hp16
    have HS := Lib.hid hS
    have HCT := Lib.hid (show CntW W3 g br n S bn bd (Rn (mayD d) n) ∧ MayW W3 M bn bd d from ⟨hcn, hmw⟩)
    have hcb := hcn.1
    have hc0 : W3.cell? ⟨g, 0, none⟩ = some (.int .i64 (n : Int)) := cell_of (j := 0) hcb rfl
    clear hcb hcn hmw hx0 hx1 hx2 hB3 hn hS hp0
    by_cases hz : ps.length = n
    · have hz1 : ((ps.length : Int) != (n : Int)) = false := by simp; omega
      have hn16 : n ≤ 16 := HN.out ▸ HL.out.2.1
      have HZ := Lib.hid hz
      clear hz
      go_wp2_with fail
      go_loopg [4, 8, 28] n (fun m q4 q8 q28 wr => ∃ (i s k : Nat) (qs : List Nat), m + i = n ∧ q4 = .int .u64 (k : Int) ∧ q8 = .int .i64 (s : Int) ∧ q28 = .int .i64 (i : Int) ∧ Hid (Num d ps qs i s k) ∧ Hid (Dr W3 wr))
      case atStart => exact ⟨0, 0, 0, [], by omega, rfl, rfl, rfl, Lib.hid (Num.start _ _), Lib.hid (Dr.refl _)⟩
      case round =>
        obtain ⟨i, s, k, qs, hm, rfl, rfl, rfl, HNU, HDR⟩ := hrel
        have HBX := Lib.hid (HDR.out.below)
        have HCX := Lib.hid (HCT.out.1.below HBX.out)
        have HMX := Lib.hid (HCT.out.2.below HBX.out)
        have HBW := Lib.hid (HB3.out.trans (HBX.out.mono HB3.out.size))
        have hcc := HCX.out.1
        have hc0 := cell_of (j := 0) hcc rfl
        have hc1 := cell_of (j := 1) hcc rfl
        clear hcc
        by_cases hi : i < n
        · have hii : (i : Int) < (n : Int) := by omega
          have hil : (i : Int) < (ps.length : Int) := by rw [HZ.out]; omega
          have hi0 : (0 : Int) ≤ (i : Int) := by omega
          have hs16 : s < 65536 := by have := HNU.out.set; rw [← HN.out, ← HS.out] at this; omega
          obtain ⟨b, off, rfl, -, f1⟩ := HP.out.at_ HBW.out (show i < ps.length by rw [HZ.out]; exact hi)
          have HPI := Lib.hid (show ps[i]? = some (nthI ps i) by rw [nthI_get (show i < ps.length by rw [HZ.out]; exact hi)]; exact List.getElem?_eq_getElem _)
          generalize nthI ps i = p at f1 HPI
          go_upto_region 11 with fail
          go_cut [59] (fun c wx => c = .bool (badP d s i p) ∧ Hid (Dr wr wx))
          case first =>
            by_cases h1 : p < 0
            · have hB : badP d s i p = true := by unfold badP; rw [decide_eq_true h1, Bool.true_or]
              go_wp2_with fail
              go_meet
              case rel => exact ⟨by rw [hB], Dr.refl _⟩
            · by_cases h2 : (n : Int) ≤ p
              · have hB : badP d s i p = true := by unfold badP; rw [← HN.out, decide_eq_true h2, Bool.true_or, Bool.or_true]
                go_wp2_with fail
                go_meet
                case rel => exact ⟨by rw [hB], Dr.refl _⟩
              · obtain ⟨q, rfl⟩ : ∃ q : Nat, p = (q : Int) := ⟨p.toNat, by omega⟩
                have hqn : q < n := by omega
                have hq0 : (0 : Int) ≤ (q : Int) := by omega
                have hB : badP d s i (q : Int) = (s.testBit q || !mayD d i q) := by
                  unfold badP; rw [← HN.out, decide_eq_false h1, decide_eq_false h2, Int.toNat_natCast, Bool.false_or, Bool.false_or]
                have HBB := Lib.hid hB
                have HMY := Lib.hid (may_any wr M _ _ d HMX.out HL.out.2.2.2.1 HL.out.2.2.2.2 i q (show i < nD d by rw [← HN.out]; exact hi) (by rw [← HL.out.2.2.1, ← HN.out]; exact hqn))
                clear hB
                by_cases hb : s.testBit q = true
                · obtain ⟨Z, hZ, hZ0⟩ := band_yes hs16 (show q < 16 by omega) hb
                  clear HMY
                  go_wp2_with fail
                  go_meet
                  case rel => exact ⟨by rw [HBB.out, hb]; rfl, Dr.refl _⟩
                · have hb : s.testBit q = false := by simpa using hb
                  have hZ := band_no hs16 (show q < 16 by omega) hb
                  go_wp2_with fail
                  refine HMY.out.mono ?_
                  rintro _ W ⟨rfl, hW⟩
                  go_wp2_with fail
                  go_meet
                  case rel => exact ⟨by rw [HBB.out, hb]; rfl, hW⟩
          case rest =>
            obtain ⟨rfl, HD2⟩ := hcut
            have HDZ := Lib.hid (show Dr W3 wc from by obtain ⟨n1, h1⟩ := HDR.out; obtain ⟨n2, h2⟩ := HD2.out; exact ⟨n1 + n2, by rw [h2, h1, World.drewN_drewN]⟩)
            clear hc0 hc1 HMX HCX HBX HD2 HDR f1 HBW
            cases hbp : badP d s i p
            · obtain ⟨q, rfl, hq, hbt, hmy⟩ := badP_no hbp
              rw [← HN.out] at hq
              clear hbp
              have HQ := Lib.hid (And.intro hbt hmy)
              clear hbt hmy
              have hq0 : (0 : Int) ≤ (q : Int) := by omega
              go_wp2_with fail
              go_loopg [4, 61] q (fun m2 q4 q61 wx => ∃ j P : Nat, m2 + j = q ∧ q4 = .int .u64 (P : Int) ∧ q61 = .int .i64 (j : Int) ∧ Hid (P = k + sumB (addK (mayD d) n s) j) ∧ Hid (Dr W3 wx))
              case atStart => exact ⟨0, k, by omega, rfl, rfl, Lib.hid rfl, HDZ⟩
              case round =>
                clear HDZ
                obtain ⟨j, P, hm2, rfl, rfl, HPP, HDR⟩ := hrel
                have HBX := Lib.hid (HDR.out.below)
                have HCX := Lib.hid (HCT.out.1.below HBX.out)
                have HMX := Lib.hid (HCT.out.2.below HBX.out)
                have hcc := HCX.out.1
                have hc0 := cell_of (j := 0) hcc rfl
                have hc1 := cell_of (j := 1) hcc rfl
                clear hcc
                by_cases hj : j < q
                · have hjj : (j : Int) < (q : Int) := by omega
                  have hj0 : (0 : Int) ≤ (j : Int) := by omega
                  go_upto_region 16 with fail
                  have HMY := Lib.hid (may_any wr M _ _ d HMX.out HL.out.2.2.2.1 HL.out.2.2.2.2 i j (show i < nD d by rw [← HN.out]; exact hi) (by rw [← HL.out.2.2.1, ← HN.out]; omega))
                  go_cut [77] (fun c wx => c = .bool (!s.testBit j && mayD d i j) ∧ Hid (Dr wr wx))
                  case first =>
                    by_cases hb : s.testBit j = true
                    · obtain ⟨Z, hZ, hZ0⟩ := band_yes hs16 (show j < 16 by omega) hb
                      clear HMY
                      go_wp2_with fail
                      go_meet
                      case rel => exact ⟨by rw [hb]; rfl, Dr.refl _⟩
                    · have hb : s.testBit j = false := by simpa using hb
                      have hZ := band_no hs16 (show j < 16 by omega) hb
                      go_wp2_with fail
                      refine HMY.out.mono ?_
                      rintro _ W ⟨rfl, hW⟩
                      go_wp2_with fail
                      go_meet
                      case rel => exact ⟨by rw [hb]; rfl, hW⟩
                  case rest =>
                    obtain ⟨rfl, HD2⟩ := hcut
                    clear HMY hc0 hc1 HMX
                    have HDZ := Lib.hid (show Dr W3 wc from by obtain ⟨n1, h1⟩ := HDR.out; obtain ⟨n2, h2⟩ := HD2.out; exact ⟨n1 + n2, by rw [h2, h1, World.drewN_drewN]⟩)
                    have HCY := Lib.hid (HCX.out.below HD2.out.below)
                    have hcc := HCY.out.1
                    have hc2 : wc.cell? ⟨g, 2, none⟩ = some (.slice (some ⟨br, 0, none⟩) S S) := cell_of (j := 2) hcc rfl
                    clear hcc HCX HBX HD2 HDR
                    cases hbm : (!s.testBit j && mayD d i j)
                    · go_wp2_with fail
                      go_roundg (gk - 1)
                      case measure => omega
                      case rel =>
                        have ha : addK (mayD d) n s j = 0 := by
                          unfold addK
                          rw [HN.out, HNU.out.cnt, hbm]; rfl
                        exact ⟨j + 1, P, by omega, rfl, by go_num, Lib.hid (by rw [sumB, ha, Nat.add_zero]; exact HPP.out), HDZ⟩
                    · have hadd : addK (mayD d) n s j = Rn (mayD d) n (wth s j) := by
                        unfold addK
                        rw [HN.out, HNU.out.cnt, hbm]; rfl
                      have hor := bor_wth hs16 (show j < 16 by omega)
                      have hor2 := bor_wth2 hs16 (show j < 16 by omega)
                      have htS : wth s j < S := by rw [HS.out]; exact wth_lt (by rw [HN.out]; exact HNU.out.set) (by omega)
                      have hrt := HCY.out.2.cell (i := wth s j) htS
                      have HSJ := Lib.hid (show sumB (addK (mayD d) n s) (j + 1) = sumB (addK (mayD d) n s) j + Rn (mayD d) n (wth s j) by rw [sumB, hadd])
                      have hsum := step_sum HNU.out.cnt HNU.out.set (by rw [← HN.out]; exact hi)
                      rw [← HN.out] at hsum
                      have hmono := sumB_mono (f := addK (mayD d) n s) (show j + 1 ≤ n by omega)
                      have hbd := HNU.out.bound
                      have hr0 := Rn_le (may := mayD d) (n := nD d) 0 (by rw [← HN.out]; exact hn16)
                      rw [← HN.out] at hbd hr0
                      have hPP := HPP.out
                      have hPR : P + Rn (mayD d) n (wth s j) < 18446744073709551616 := by rw [HSJ.out] at hmono; omega
                      clear hbm hadd hsum hmono hbd hr0 hPP
                      generalize hT : wth s j = t at *
                      generalize hR : Rn (mayD d) n t = R at *
                      clear hT hR
                      have ht0 : (0 : Int) ≤ (t : Int) := by omega
                      have ht1 : (t : Int) < (S : Int) := by omega
                      have hwr : IntKind.u64.wrap ((P : Int) + (R : Int)) = ((P + R : Nat) : Int) := by rw [IntKind.wrap_u64]; omega
                      clear hPR
                      go_wp2_with fail
                      go_quiet (fail)
                      go_wp2_with fail
                      go_roundg (gk - 1)
                      case measure => omega
                      case rel =>
                        exact ⟨j + 1, P + R, by omega, by go_num, by go_num, Lib.hid (by rw [HSJ.out, HPP.out]; omega), HDZ.out.drewN _⟩
                · obtain rfl : j = q := by omega
                  have hjj : ¬ (j : Int) < (j : Int) := by omega
                  have hor := bor_wth hs16 (show j < 16 by omega)
                  go_wp2_with fail
                  go_roundg (n - (i + 1))
                  case measure => omega
                  case rel =>
                    have hnx := HNU.out.next (by rw [← HN.out]; exact hi) (by rw [HZ.out]; exact hi) (by rw [← HN.out]; exact hq) HPI.out HQ.out.1 HQ.out.2
                    rw [← HN.out, ← HPP.out] at hnx
                    exact ⟨i + 1, wth s j, P, qs ++ [j], by omega, rfl, rfl, by go_num, Lib.hid hnx, HDR⟩
            · have HC := Lib.hid (numberD_not (ps := ps) HCC.out (HNU.out.bad (by rw [HZ.out]; exact hi) (fun j hj hjn hb => by
                rw [HPI.out] at hj
                cases hj
                exact badP_yes hbp hjn hb)))
              go_wp2_with fail
              go_ret2
              exact ⟨by rw [HC.out]; rfl, HB3.out.trans (HDZ.out.below.mono HB3.out.size)⟩
        · have hii : ¬ (i : Int) < (n : Int) := by omega
          have hil : ¬ (i : Int) < (ps.length : Int) := by rw [HZ.out]; omega
          go_wp2_with fail
          go_ret2
          have hin : i = nD d := by rw [← HN.out]; omega
          have hnu := HNU.out
          rw [hin] at hnu
          exact ⟨by rw [hnu.done HCC.out (by rw [HZ.out, HN.out])]; rfl, HBW.out⟩
    · have HC := Lib.hid (numberD_not (ps := ps) HCC.out (number_len (by rw [← HN.out]; exact hz)))
      have hz1 : ((ps.length : Int) != (n : Int)) = true := by simp; omega
      have hz2 : ¬ (ps.length : Int) = (n : Int) := by omega
      clear hz
      go_wp2_with fail
      go_ret2
      exact ⟨by rw [HC.out]; rfl, HB3.out⟩
end Go.Proofs.Ytgaanndidcdbpaa.Dw
