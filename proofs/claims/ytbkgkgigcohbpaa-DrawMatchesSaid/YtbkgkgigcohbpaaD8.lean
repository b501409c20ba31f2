import Derived.Test.YtbkgkgigcohbpaaD7
namespace Go.Proofs.Ytbkgkgigcohbpaa
open Go.RowKit
def badP (d : DrawD) (s i : Nat) (p : Int) : Bool := decide (p < 0) || (decide ((nD d : Int) ≤ p) || (s.testBit p.toNat || !mayD d i p.toNat))
theorem badP_no {d : DrawD} {s i : Nat} {p : Int} (h : badP d s i p = false) : ∃ q : Nat, p = (q : Int) ∧ q < nD d ∧ s.testBit q = false ∧ mayD d i q = true := by
  unfold badP at h
  rw [Bool.or_eq_false_iff, Bool.or_eq_false_iff, Bool.or_eq_false_iff, decide_eq_false_iff_not, decide_eq_false_iff_not, Bool.not_eq_false'] at h
  exact ⟨p.toNat, by omega, by omega, h.2.2.1, h.2.2.2⟩
theorem badP_yes {d : DrawD} {s i : Nat} {j : Nat} (h : badP d s i (j : Int) = true) (hj : j < nD d) (hb : s.testBit j = false) : mayD d i j = false := by
  unfold badP at h
  rw [decide_eq_false (by omega), decide_eq_false (by omega), Int.toNat_natCast, hb] at h
  simpa using h
set_option maxHeartbeats 2000000 in
set_option maxRecDepth 8000 in
theorem number_any (w : World) (M : Nat → Prop) (v vp : Value) (d : DrawD) (ps : List Int) (h : IsDraw w M v d) (hp : IsInts w M vp ps) :
    Calls Try.prog 21 #[v, vp] w (NumE w (numberD d ps)) := by
  have CK := fun W (hB : Below w.heap.size w W) => Lib.hid (check_any W M v d (h.below hB))
  have HD := Lib.hid h
  have HP := Lib.hid hp
  obtain ⟨v1, v2, v3, rfl, -, -, -⟩ := h
  obtain ⟨A, c, rfl, hl1, hl2, -⟩ := hp
  cases hc : checkB d
  · have HC := Lib.hid (numberD_bad (ps := ps) hc)
    rw [checkD_no hc] at CK
    go_enter Try.func21, Try.ntmps21
    go_wp2_with fail
    refine nameW fun W1 hW1 => ?_
    have hB1 : Below w.heap.size w W1 := by rw [hW1.out]; exact (Below.refl w.heap.size w).alloc (Nat.le_refl _) _
    refine (CK W1 hB1).out.mono ?_
    rintro e W2 ⟨rfl, hB2⟩
    clear hW1
    have HB := Lib.hid (hB1.trans (hB2.mono hB1.size))
    clear hB1 hB2
    go_wp2_with fail
    go_ret2
    exact ⟨by rw [HC.out]; rfl, HB.out⟩
  · have hlen := checkB_len hc
    have HL := Lib.hid hlen
    rw [checkD_yes hc] at CK
    have CP := fun W (hB : Below w.heap.size w W) => Lib.hid (prepare_any W M _ d (HD.out.below hB) hc)
    have HCC := Lib.hid hc
    clear hc hlen
    go_enter Try.func21, Try.ntmps21
    go_wp2_with fail
    refine nameW fun W1 hW1 => ?_
    have hB1 : Below w.heap.size w W1 := by rw [hW1.out]; exact (Below.refl w.heap.size w).alloc (Nat.le_refl _) _
    have hb1 : W1.heap[w.heap.size]? = some (.cells #[v1, v2, v3] 25 (0, 0)) := by rw [hW1.out, heap_alloc_if, if_pos rfl]
    refine (CK W1 hB1).out.mono ?_
    rintro e W2 ⟨rfl, hB2⟩
    have hb2 := (hB2.block w.heap.size (lt_heap hb1)).trans hb1
    have HB := Lib.hid (hB1.trans (hB2.mono hB1.size))
    have hx0 := cell_of (j := 0) hb2 rfl
    have hx1 := cell_of (j := 1) hb2 rfl
    have hx2 := cell_of (j := 2) hb2 rfl
    clear hB1 hB2 hW1 hb1 hb2
    go_wp2_with fail
    refine (CP W2 HB.out).out.mono ?_
    clear CP CK
    rintro e W3 ⟨g, rfl, ⟨br, bn, bd, hne, hcn, hmw⟩, hg, hB3⟩
    have HB3 := Lib.hid (HB.out.trans (hB3.mono HB.out.size))
    obtain ⟨n, hn⟩ : ∃ n, n = nD d := ⟨_, rfl⟩
    change CntW W3 g br (nD d) (2 ^ nD d) bn bd (Rn (mayD d) (nD d)) at hcn
    have hp0 : 0 < 2 ^ nD d := Nat.two_pow_pos _
    have hp16 : 2 ^ nD d ≤ 2 ^ 16 := Nat.pow_le_pow_right (by omega) HL.out.2.1
    rw [← hn] at hcn hp0 hp16
    have HN := Lib.hid hn
    obtain ⟨S, hS⟩ : ∃ S, S = 2 ^ n := ⟨_, rfl⟩
    rw [← hS] at hcn hp0 hp16
    have HS := Lib.hid hS
    have HCT := Lib.hid (show CntW W3 g br n S bn bd (Rn (mayD d) n) ∧ MayW W3 M bn bd d from ⟨hcn, hmw⟩)
    have hcb := hcn.1
    have hc0 : W3.cell? ⟨g, 0, none⟩ = some (.int .i64 (n : Int)) := cell_of (j := 0) hcb rfl
    clear hcb hcn hmw hx0 hx1 hx2 hB3 hn hS hp0
    by_cases hz : ps.length = n
    · have hz1 : ((ps.length : Int) != (n : Int)) = false := by simp; omega
      have hn16 : n ≤ 16 := HN.out ▸ HL.out.2.1
      have HZ := Lib.hid hz
      clear hz
      go_wp2_with fail
      go_loopg [4, 8, 28] n (fun m q4 q8 q28 wr => ∃ (i s k : Nat) (qs : List Nat), m + i = n ∧ q4 = .int .u64 (k : Int) ∧ q8 = .int .i64 (s : Int) ∧ q28 = .int .i64 (i : Int) ∧ Hid (Num d ps qs i s k) ∧ Hid (Dr W3 wr))
      case atStart => exact ⟨0, 0, 0, [], by omega, rfl, rfl, rfl, Lib.hid (Num.start _ _), Lib.hid (Dr.refl _)⟩
      case round =>
        obtain ⟨i, s, k, qs, hm, rfl, rfl, rfl, HNU, HDR⟩ := hrel
        have HBX := Lib.hid (HDR.out.below)
        have HCX := Lib.hid (HCT.out.1.below HBX.out)
        have HMX := Lib.hid (HCT.out.2.below HBX.out)
        have HBW := Lib.hid (HB3.out.trans (HBX.out.mono HB3.out.size))
        have hcc := HCX.out.1
        have hc0 := cell_of (j := 0) hcc rfl
        have hc1 := cell_of (j := 1) hcc rfl
        clear hcc
        by_cases hi : i < n
        · have hii : (i : Int) < (n : Int) := by omega
          have hil : (i : Int) < (ps.length : Int) := by rw [HZ.out]; omega
          have hi0 : (0 : Int) ≤ (i : Int) := by omega
          have hs16 : s < 65536 := by have := HNU.out.set; rw [← HN.out, ← HS.out] at this; omega
          obtain ⟨b, off, rfl, -, f1⟩ := HP.out.at_ HBW.out (show i < ps.length by rw [HZ.out]; exact hi)
          have HPI := Lib.hid (show ps[i]? = some (nthI ps i) by rw [nthI_get (show i < ps.length by rw [HZ.out]; exact hi)]; exact List.getElem?_eq_getElem _)
          generalize nthI ps i = p at f1 HPI
          go_upto_region 11 with fail
          go_cut [59] (fun c wx => c = .bool (badP d s i p) ∧ Hid (Dr wr wx))
          case first =>
            by_cases h1 : p < 0
            · have hB : badP d s i p = true := by unfold badP; rw [decide_eq_true h1, Bool.true_or]
              go_wp2_with fail
              go_meet
              case rel => exact ⟨by rw [hB], Dr.refl _⟩
            · by_cases h2 : (n : Int) ≤ p
              · have hB : badP d s i p = true := by unfold badP; rw [← HN.out, decide_eq_true h2, Bool.true_or, Bool.or_true]
                go_wp2_with fail
                go_meet
                case rel => exact ⟨by rw [hB], Dr.refl _⟩
              · obtain ⟨q, rfl⟩ : ∃ q : Nat, p = (q : Int) := ⟨p.toNat, by omega⟩
                have hqn : q < n := by omega
                have hq0 : (0 : Int) ≤ (q : Int) := by omega
                have hB : badP d s i (q : Int) = (s.testBit q || !mayD d i q) := by
                  unfold badP; rw [← HN.out, decide_eq_false h1, decide_eq_false h2, Int.toNat_natCast, Bool.false_or, Bool.false_or]
                have HBB := Lib.hid hB
                have HMY := Lib.hid (may_any wr M _ _ d HMX.out HL.out.2.2.2.1 HL.out.2.2.2.2 i q (show i < nD d by rw [← HN.out]; exact hi) (by rw [← HL.out.2.2.1, ← HN.out]; exact hqn))
                clear hB
                by_cases hb : s.testBit q = true
                · obtain ⟨Z, hZ, hZ0⟩ := band_yes hs16 (show q < 16 by omega) hb
                  clear HMY
                  go_wp2_with fail
                  go_meet
                  case rel => exact ⟨by rw [HBB.out, hb]; rfl, Dr.refl _⟩
                · have hb : s.testBit q = false := by simpa using hb
                  have hZ := band_no hs16 (show q < 16 by omega) hb
                  go_wp2_with fail
                  refine HMY.out.mono ?_
                  rintro _ W ⟨rfl, hW⟩
                  go_wp2_with fail
                  go_meet
                  case rel => exact ⟨by rw [HBB.out, hb]; rfl, hW⟩
          case rest =>
            obtain ⟨rfl, HD2⟩ := hcut
            have HDZ := Lib.hid (show Dr W3 wc from by obtain ⟨n1, h1⟩ := HDR.out; obtain ⟨n2, h2⟩ := HD2.out; exact ⟨n1 + n2, by rw [h2, h1, World.drewN_drewN]⟩)
            clear hc0 hc1 HMX HCX HBX HD2 HDR f1 HBW
            cases hbp : badP d s i p
            · obtain ⟨q, rfl, hq, hbt, hmy⟩ := badP_no hbp
              rw [← HN.out] at hq
              clear hbp
              have HQ := Lib.hid (And.intro hbt hmy)
              clear hbt hmy
              have hq0 : (0 : Int) ≤ (q : Int) := by omega
              go_wp2_with fail
              go_loopg [4, 61] q (fun m2 q4 q61 wx => ∃ j P : Nat, m2 + j = q ∧ q4 = .int .u64 (P : Int) ∧ q61 = .int .i64 (j : Int) ∧ Hid (P = k + sumB (addK (mayD d) n s) j) ∧ Hid (Dr W3 wx))
              case atStart => exact ⟨0, k, by omega, rfl, rfl, Lib.hid rfl, HDZ⟩
              case round =>
                clear HDZ
                obtain ⟨j, P, hm2, rfl, rfl, HPP, HDR⟩ := hrel
                have HBX := Lib.hid (HDR.out.below)
                have HCX := Lib.hid (HCT.out.1.below HBX.out)
                have HMX := Lib.hid (HCT.out.2.below HBX.out)
                have hcc := HCX.out.1
                have hc0 := cell_of (j := 0) hcc rfl
                have hc1 := cell_of (j := 1) hcc rfl
                clear hcc
                by_cases hj : j < q
                · have hjj : (j : Int) < (q : Int) := by omega
                  have hj0 : (0 : Int) ≤ (j : Int) := by omega
                  go_upto_region 16 with fail
                  have HMY := Lib.hid (may_any wr M _ _ d HMX.out HL.out.2.2.2.1 HL.out.2.2.2.2 i j (show i < nD d by rw [← HN.out]; exact hi) (by rw [← HL.out.2.2.1, ← HN.out]; omega))
                  go_cut [77] (fun c wx => c = .bool (!s.testBit j && mayD d i j) ∧ Hid (Dr wr wx))
                  case first =>
                    by_cases hb : s.testBit j = true
                    · obtain ⟨Z, hZ, hZ0⟩ := band_yes hs16 (show j < 16 by omega) hb
                      clear HMY
                      go_wp2_with fail
                      go_meet
                      case rel => exact ⟨by rw [hb]; rfl, Dr.refl _⟩
                    · have hb : s.testBit j = false := by simpa using hb
                      have hZ := band_no hs16 (show j < 16 by omega) hb
                      go_wp2_with fail
                      refine HMY.out.mono ?_
                      rintro _ W ⟨rfl, hW⟩
                      go_wp2_with fail
                      go_meet
                      case rel => exact ⟨by rw [hb]; rfl, hW⟩
                  case rest =>
                    obtain ⟨rfl, HD2⟩ := hcut
                    clear HMY hc0 hc1 HMX
                    have HDZ := Lib.hid (show Dr W3 wc from by obtain ⟨n1, h1⟩ := HDR.out; obtain ⟨n2, h2⟩ := HD2.out; exact ⟨n1 + n2, by rw [h2, h1, World.drewN_drewN]⟩)
                    have HCY := Lib.hid (HCX.out.below HD2.out.below)
                    have hcc := HCY.out.1
                    have hc2 : wc.cell? ⟨g, 2, none⟩ = some (.slice (some ⟨br, 0, none⟩) S S) := cell_of (j := 2) hcc rfl
                    clear hcc HCX HBX HD2 HDR
                    cases hbm : (!s.testBit j && mayD d i j)
                    · go_wp2_with fail
                      go_roundg (gk - 1)
                      case measure => omega
                      case rel =>
                        have ha : addK (mayD d) n s j = 0 := by
                          unfold addK
                          rw [HN.out, HNU.out.cnt, hbm]; rfl
                        exact ⟨j + 1, P, by omega, rfl, by go_num, Lib.hid (by rw [sumB, ha, Nat.add_zero]; exact HPP.out), HDZ⟩
                    · have hadd : addK (mayD d) n s j = Rn (mayD d) n (wth s j) := by
                        unfold addK
                        rw [HN.out, HNU.out.cnt, hbm]; rfl
                      have hor := bor_wth hs16 (show j < 16 by omega)
                      have hor2 := bor_wth2 hs16 (show j < 16 by omega)
                      have htS : wth s j < S := by rw [HS.out]; exact wth_lt (by rw [HN.out]; exact HNU.out.set) (by omega)
                      have hrt := HCY.out.2.cell (i := wth s j) htS
                      have HSJ := Lib.hid (show sumB (addK (mayD d) n s) (j + 1) = sumB (addK (mayD d) n s) j + Rn (mayD d) n (wth s j) by rw [sumB, hadd])
                      have hsum := step_sum HNU.out.cnt HNU.out.set (by rw [← HN.out]; exact hi)
                      rw [← HN.out] at hsum
                      have hmono := sumB_mono (f := addK (mayD d) n s) (show j + 1 ≤ n by omega)
                      have hbd := HNU.out.bound
                      have hr0 := Rn_le (may := mayD d) (n := nD d) 0 (by rw [← HN.out]; exact hn16)
                      rw [← HN.out] at hbd hr0
                      have hPP := HPP.out
                      have hPR : P + Rn (mayD d) n (wth s j) < 18446744073709551616 := by rw [HSJ.out] at hmono; omega
                      clear hbm hadd hsum hmono hbd hr0 hPP
                      generalize hT : wth s j = t at *
                      generalize hR : Rn (mayD d) n t = R at *
                      clear hT hR
                      have ht0 : (0 : Int) ≤ (t : Int) := by omega
                      have ht1 : (t : Int) < (S : Int) := by omega
                      have hwr : IntKind.u64.wrap ((P : Int) + (R : Int)) = ((P + R : Nat) : Int) := by rw [IntKind.wrap_u64]; omega
                      clear hPR
                      go_wp2_with fail
                      go_quiet (fail)
                      go_wp2_with fail
                      go_roundg (gk - 1)
                      case measure => omega
                      case rel =>
                        exact ⟨j + 1, P + R, by omega, by go_num, by go_num, Lib.hid (by rw [HSJ.out, HPP.out]; omega), HDZ.out.drewN _⟩
                · obtain rfl : j = q := by omega
                  have hjj : ¬ (j : Int) < (j : Int) := by omega
                  have hor := bor_wth hs16 (show j < 16 by omega)
                  go_wp2_with fail
                  go_roundg (n - (i + 1))
                  case measure => omega
                  case rel =>
                    have hnx := HNU.out.next (by rw [← HN.out]; exact hi) (by rw [HZ.out]; exact hi) (by rw [← HN.out]; exact hq) HPI.out HQ.out.1 HQ.out.2
                    rw [← HN.out, ← HPP.out] at hnx
                    exact ⟨i + 1, wth s j, P, qs ++ [j], by omega, rfl, rfl, by go_num, Lib.hid hnx, HDR⟩
            · have HC := Lib.hid (numberD_not (ps := ps) HCC.out (HNU.out.bad (by rw [HZ.out]; exact hi) (fun j hj hjn hb => by
                rw [HPI.out] at hj
                cases hj
                exact badP_yes hbp hjn hb)))
              go_wp2_with fail
              go_ret2
              exact ⟨by rw [HC.out]; rfl, HB3.out.trans (HDZ.out.below.mono HB3.out.size)⟩
        · have hii : ¬ (i : Int) < (n : Int) := by omega
          have hil : ¬ (i : Int) < (ps.length : Int) := by rw [HZ.out]; omega
          go_wp2_with fail
          go_ret2
          have hin : i = nD d := by rw [← HN.out]; omega
          have hnu := HNU.out
          rw [hin] at hnu
          exact ⟨by rw [hnu.done HCC.out (by rw [HZ.out, HN.out])]; rfl, HBW.out⟩
    · have HC := Lib.hid (numberD_not (ps := ps) HCC.out (number_len (by rw [← HN.out]; exact hz)))
      have hz1 : ((ps.length : Int) != (n : Int)) = true := by simp; omega
      have hz2 : ¬ (ps.length : Int) = (n : Int) := by omega
      clear hz
      go_wp2_with fail
      go_ret2
      exact ⟨by rw [HC.out]; rfl, HB3.out⟩
end Go.Proofs.Ytbkgkgigcohbpaa
