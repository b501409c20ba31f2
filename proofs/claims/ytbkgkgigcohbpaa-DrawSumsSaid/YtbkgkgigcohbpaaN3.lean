/- For every draw the law DrawSums of the given program returns true. -/
import Derived.Test.YtbkgkgigcohbpaaM7
namespace Go.Proofs.Ytbkgkgigcohbpaa
open Go.RowKit
set_option maxHeartbeats 4000000 in
set_option maxRecDepth 8000 in
theorem law6 (w : World) (M : Nat → Prop) (v : Value) (d : DrawD) (h : IsDraw w M v d) :
    Calls Try.prog 6 #[v] w fun e w' => e = .returned (.bool true) ∧ Below w.heap.size w w' := by
  have HD := Lib.hid h
  obtain ⟨v1, v2, v3, rfl, -, -, -⟩ := h
  go_enter Try.func6, Try.ntmps6
  go_wp2_with fail
  refine nameW fun W1 hW1 => ?_
  have hB1 : Below w.heap.size w W1 := by rw [hW1.out]; exact (Below.refl w.heap.size w).alloc (Nat.le_refl _) _
  have hb1 : W1.heap[w.heap.size]? = some (.cells #[v1, v2, v3] 25 (0, 0)) := by rw [hW1.out, heap_alloc_if, if_pos rfl]
  refine (sane_any W1).mono ?_
  rintro e W2 ⟨rfl, hB2⟩
  have hb2 := (hB2.block w.heap.size (lt_heap hb1)).trans hb1
  have HB2 := Lib.hid (hB1.trans (hB2.mono hB1.size))
  have HX2 := Lib.hid hb2
  have c0 := cell_of (j := 0) hb2 rfl
  have c1 := cell_of (j := 1) hb2 rfl
  have c2 := cell_of (j := 2) hb2 rfl
  clear hB1 hb1 hB2 hb2 hW1
  have CL := Lib.hid (large_any W2 M _ d (HD.out.below HB2.out))
  cases hL : largeD d
  · rw [hL] at CL
    go_wp2_with fail
    refine CL.out.mono ?_
    rintro e W3 ⟨rfl, hB3⟩
    have hb3 := (hB3.block w.heap.size (lt_heap HX2.out)).trans HX2.out
    have HB3 := Lib.hid (HB2.out.trans (hB3.mono HB2.out.size))
    have HX3 := Lib.hid hb3
    clear c0 c1 c2 CL HB2 HX2 hB3
    have c0 := cell_of (j := 0) hb3 rfl
    have c1 := cell_of (j := 1) hb3 rfl
    have c2 := cell_of (j := 2) hb3 rfl
    clear hb3
    have CK := Lib.hid (refCheck_any W3 M _ d (HD.out.below HB3.out))
    cases hc : checkB d
    · rw [checkD_no hc] at CK
      go_wp2_with fail
      refine CK.out.mono ?_
      rintro e W4 ⟨rfl, hB4⟩
      go_wp2_with fail
      go_ret
      exact ⟨rfl, HB3.out.trans (hB4.mono HB3.out.size)⟩
    · rw [checkD_yes hc] at CK
      have HC := Lib.hid hc
      clear hc
      go_wp2_with fail
      refine CK.out.mono ?_
      rintro e W4 ⟨rfl, hB4⟩
      have hb4 := (hB4.block w.heap.size (lt_heap HX3.out)).trans HX3.out
      have HB4 := Lib.hid (HB3.out.trans (hB4.mono HB3.out.size))
      have HX4 := Lib.hid hb4
      clear c0 c1 c2 CK HB3 HX3 hB4
      have c0 := cell_of (j := 0) hb4 rfl
      have c1 := cell_of (j := 1) hb4 rfl
      have c2 := cell_of (j := 2) hb4 rfl
      clear hb4
      have CC := Lib.hid (count_any W4 M _ d (HD.out.below HB4.out))
      rw [show countD d = (Rn (mayD d) (nD d) 0, 0) by unfold countD; rw [HC.out]; rfl] at CC
      have hR16 := Rn_le (may := mayD d) (n := nD d) 0 (checkB_len HC.out).2.1
      obtain ⟨R, hR⟩ : ∃ R, R = Rn (mayD d) (nD d) 0 := ⟨_, rfl⟩
      rw [← hR] at CC hR16
      have HR := Lib.hid hR
      clear hR
      go_wp2_with fail
      refine CC.out.mono ?_
      rintro e W5 ⟨rfl, hB5⟩
      have hb5 := (hB5.block w.heap.size (lt_heap HX4.out)).trans HX4.out
      have HB5 := Lib.hid (HB4.out.trans (hB5.mono HB4.out.size))
      have HX5 := Lib.hid hb5
      clear c0 c1 c2 HB4 HX4
      have c0 := cell_of (j := 0) hb5 rfl
      have c1 := cell_of (j := 1) hb5 rfl
      have c2 := cell_of (j := 2) hb5 rfl
      clear hb5
      clear hB5 CC
      have CH := Lib.hid (chances_any W5 M _ d (HD.out.below HB5.out))
      rw [chancesD_yes HC.out] at CH
      go_wp2_with fail
      refine CH.out.mono ?_
      rintro e W6 ⟨v6, rfl, h6, hB6⟩
      have hb6 := (hB6.block w.heap.size (lt_heap HX5.out)).trans HX5.out
      have HB6 := Lib.hid (HB5.out.trans (hB6.mono HB5.out.size))
      have HX6 := Lib.hid hb6
      clear c0 c1 c2 HB5 HX5
      have c0 := cell_of (j := 0) hb6 rfl
      have c1 := cell_of (j := 1) hb6 rfl
      have c2 := cell_of (j := 2) hb6 rfl
      clear hb6
      clear hB6 CH
      obtain ⟨_, _, _, e0, p1, p2, -⟩ := id HD.out
      cases e0
      obtain ⟨A1, q1, rfl, -⟩ := p1
      obtain ⟨A2, q2, rfl, -⟩ := p2
      obtain ⟨n, hn⟩ : ∃ n, n = nD d := ⟨_, rfl⟩
      have hn1 : d.first.length = n := hn.symm
      have hn2 : d.second.length = n := by rw [hn]; exact (checkB_len HC.out).2.2.1.symm
      have hn16 : n ≤ 16 := hn ▸ (checkB_len HC.out).2.1
      obtain ⟨A6, q6, rfl, -⟩ := h6.sl
      have e6 : Value.slice A6 (chanL d).length q6 = Value.slice A6 n q6 := by rw [chanL_len, hn]
      rw [e6] at h6 ⊢
      rw [hn1, hn2] at c0 c1 HX6 HD
      rw [hn1, hn2]
      have H6 := Lib.hid h6
      have HN := Lib.hid hn
      have HN2 := Lib.hid (And.intro hn1 hn2)
      clear h6 e6 hn hn1 hn2
      obtain ⟨mk, hmk, hmk2⟩ := make_n n (by omega)
      obtain ⟨bw, hbw⟩ : ∃ bw, bw = W6.heap.size := ⟨_, rfl⟩
      have hmk1 := hmk W6
      have hbm : Below W6.heap.size W6 (mk W6) := by rw [hmk2]; exact (Below.refl _ _).alloc (Nat.le_refl _) _
      have hrow := World.rowIs_made W6 (.int .u64 0) n 28
      rw [← hmk2] at hrow
      rw [← hbw] at hmk1 hrow hbm
      have hwb : w.heap.size < bw := by rw [hbw]; exact lt_heap HX6.out
      have HBW := Lib.hid hbw
      clear hmk hmk2 hbw
      generalize mk W6 = W7 at hmk1 hrow hbm
      have HROW := Lib.hid hrow
      have HB7 := Lib.hid hbm
      have hb7 := (hbm.block w.heap.size hwb).trans HX6.out
      have d0 := cell_of (j := 0) hb7 rfl
      have d1 := cell_of (j := 1) hb7 rfl
      have d2 := cell_of (j := 2) hb7 rfl
      clear hrow hbm hb7
      go_wp2_with fail
      clear c0 c1 c2 d0 d1 d2 hmk1
      go_loopw [54] (fun q wr => ∃ i : Nat, i ≤ n ∧ q = .int .i64 (i : Int) ∧ Hid (wr.rowIs bw 28 n (fun c => .int .u64 ((sumB (fun r => Td d r c) i : Nat) : Int))) ∧ Hid (Below bw W6 wr)) (fun q _ => n - (intOf q).toNat)
      case atStart => exact ⟨0, Nat.zero_le _, rfl, HROW, HB7⟩
      case round =>
        obtain ⟨i, hi, rfl, HRW, HBR⟩ := hrel
        have hbx := (HBR.out.block w.heap.size hwb).trans HX6.out
        have d0 := cell_of (j := 0) hbx rfl
        have d1 := cell_of (j := 1) hbx rfl
        have d2 := cell_of (j := 2) hbx rfl
        clear hbx
        by_cases hin : i < n
        · have hii : (i : Int) < (n : Int) := by omega
          have hi0 : (0 : Int) ≤ (i : Int) := by omega
          obtain ⟨b1, o1, Y1, z1, rfl, g1, R1⟩ := H6.out.at_ (HBW.out ▸ HBR.out) (show i < (chanL d).length by rw [chanL_len, ← HN.out]; exact hin)
          have hrl : (nthR (chanL d) i).length = n := by rw [chanL_rowlen (HN.out ▸ hin), HN.out]
          have eY : Value.slice Y1 (nthR (chanL d) i).length z1 = Value.slice Y1 n z1 := by rw [hrl]
          rw [eY] at g1 R1
          have HRL := Lib.hid hrl
          have HR1 := Lib.hid R1
          clear hrl eY R1
          go_wp2_with fail
          clear g1 d0 d1 d2
          go_loopw [10, 67] (fun q10 q67 wx => ∃ k : Nat, k ≤ n ∧ q10 = .int .u64 ((sumB (Td d i) k : Nat) : Int) ∧ q67 = .int .i64 (k : Int) ∧ Hid (wx.rowIs bw 28 n (fun c => .int .u64 ((sumB (fun r => Td d r c) (if c < k then i + 1 else i) : Nat) : Int))) ∧ Hid (Below bw W6 wx)) (fun _ q _ => n - (intOf q).toNat)
          case atStart => exact ⟨0, Nat.zero_le _, rfl, rfl, Lib.hid (HRW.out.congr fun c _ => by rw [if_neg (by omega)]), HBR⟩
          case round =>
            clear HRW HBR
            obtain ⟨k, hk, rfl, rfl, HRW, HBR⟩ := hrel
            have hbx := (HBR.out.block w.heap.size hwb).trans HX6.out
            have d0 := cell_of (j := 0) hbx rfl
            have d1 := cell_of (j := 1) hbx rfl
            have d2 := cell_of (j := 2) hbx rfl
            by_cases hkn : k < n
            · have hkk : (k : Int) < (n : Int) := by omega
              have hk0 : (0 : Int) ≤ (k : Int) := by omega
              obtain ⟨b2, o2, rfl, g2⟩ := IsNs.at_ HR1.out (HBW.out ▸ HBR.out) (show k < (nthR (chanL d) i).length by rw [HRL.out]; exact hkn)
              rw [chanL_at (HN.out ▸ hin) (HN.out ▸ hkn)] at g2
              have hr0 := HRW.out.cell hkn
              have hf0 := HRW.out.frozen k
              simp only [if_neg (Nat.lt_irrefl k)] at hr0
              have hTr := Td_row (d := d) (r := i) (HN.out ▸ hin)
              have hTc := Td_col (d := d) (c := k) (HN.out ▸ hkn)
              rw [← HR.out, ← HN.out] at hTr hTc
              have hm1 := sumB_mono (f := Td d i) (show k + 1 ≤ n by omega)
              have hm2 := sumB_mono (f := fun r => Td d r k) (show i + 1 ≤ n by omega)
              have hs1 : sumB (Td d i) (k + 1) = sumB (Td d i) k + Td d i k := rfl
              have hs2 : sumB (fun r => Td d r k) (i + 1) = sumB (fun r => Td d r k) i + Td d i k := rfl
              obtain ⟨m, hm⟩ : ∃ m, m = Td d i k := ⟨_, rfl⟩
              obtain ⟨a, ha⟩ : ∃ a, a = sumB (Td d i) k := ⟨_, rfl⟩
              obtain ⟨b, hb⟩ : ∃ b, b = sumB (fun r => Td d r k) i := ⟨_, rfl⟩
              rw [← hm] at g2 hs1 hs2
              rw [← ha] at hs1 ⊢
              rw [← hb] at hr0 hs2
              have hw1 : IntKind.u64.wrap ((a : Int) + (m : Int)) = ((a + m : Nat) : Int) := by rw [IntKind.wrap_u64]; omega
              have hw2 : IntKind.u64.wrap ((b : Int) + (m : Int)) = ((b + m : Nat) : Int) := by rw [IntKind.wrap_u64]; omega
              have HM := Lib.hid hm
              have HS1 := Lib.hid hs1
              have HS2 := Lib.hid hs2
              clear hTr hTc hm1 hm2 hs1 hs2 hm ha hb hbx
              go_upto_region 21 with fail
              refine nameC fun WQ hWQ => ?_
              have hrw : WQ.rowIs bw 28 n (fun c => .int .u64 ((sumB (fun r => Td d r c) (if c < k + 1 then i + 1 else i) : Nat) : Int)) := by
                rw [hWQ.out]
                refine (HRW.out.set k _).congr fun c _ => ?_
                by_cases e : c = k
                · rw [if_pos e, e, if_pos (by omega), HS2.out]; rfl
                · rw [if_neg e]
                  by_cases e2 : c < k
                  · rw [if_pos e2, if_pos (by omega)]
                  · rw [if_neg e2, if_neg (by omega)]
              have hbr : Below bw W6 WQ := by rw [hWQ.out]; exact HBR.out.setCell (Nat.le_refl _) _
              have hby := (hbr.block w.heap.size hwb).trans HX6.out
              have k0 := cell_of (j := 0) hby rfl
              have k1 := cell_of (j := 1) hby rfl
              have k2 := cell_of (j := 2) hby rfl
              have HRQ := Lib.hid hrw
              have HBQ := Lib.hid hbr
              clear hrw hbr hby hWQ d0 d1 d2 hr0 hf0 g2 hw1 hw2 HRW HBR
              by_cases hm0 : m = 0
              · have hmz : ¬ (0 : Int) < (m : Int) := by omega
                clear hm0
                go_wp2_with fail
                go_roundw
                case rel => exact ⟨k + 1, by omega, by rw [HS1.out]; rfl, by go_num, HRQ, HBQ⟩
                case measure => simp [intOf]; omega
              · have hmz : (0 : Int) < (m : Int) := by omega
                have hbw6 : Below W6.heap.size W6 WQ := HBW.out ▸ HBQ.out
                have CM := Lib.hid (refMay_any WQ M _ d (HD.out.below (HB6.out.trans (hbw6.mono HB6.out.size))) i k (by rw [HN2.out.1]; exact hin) (by rw [HN2.out.2]; exact hkn))
                rw [Td_may (show 0 < Td d i k by rw [← HM.out]; omega)] at CM
                clear hm0 hbw6
                go_wp2_with fail
                refine CM.out.mono ?_
                rintro e WR ⟨rfl, hBR⟩
                have HRR := Lib.hid (HRQ.out.of_block (hBR.block bw HRQ.out.lt))
                have HBR2 := Lib.hid (HBQ.out.trans (hBR.mono (by have := HRQ.out.lt; omega)))
                clear hBR CM
                go_wp2_with fail
                go_roundw
                case rel => exact ⟨k + 1, by omega, by rw [HS1.out]; rfl, by go_num, HRR, HBR2⟩
                case measure => simp [intOf]; omega
            · have hkk : ¬ (k : Int) < (n : Int) := by omega
              have hTr := Td_row (d := d) (r := i) (HN.out ▸ hin)
              rw [← HR.out, ← HN.out, show n = k by omega] at hTr
              rw [hTr]
              have HRX : Hid (wr.rowIs bw 28 n (fun c => .int .u64 ((sumB (fun r => Td d r c) (i + 1) : Nat) : Int))) := HRW.out.congr fun c hc => by rw [if_pos (by omega)]
              clear hTr hbx
              go_wp2_with fail
              go_roundw
              case rel => exact ⟨i + 1, by omega, by go_num, HRX, HBR⟩
              case measure => simp [intOf]; omega
        · have hii : ¬ (i : Int) < (n : Int) := by omega
          obtain rfl : n = i := by omega
          have HRY : Hid (wr.rowIs bw 28 n (fun _ => .int .u64 (R : Int))) := HRW.out.congr fun c hc => by
            have := Td_col (d := d) (c := c) (HN.out ▸ hc)
            rw [← HR.out, ← HN.out] at this
            rw [this]
          have HBF := Lib.hid (HB6.out.trans (HBR.out.mono (Nat.le_of_lt hwb)))
          clear HRW d0 d1 d2
          go_wp2_with fail
          go_loopw [98] (fun q wx => ∃ k : Nat, k ≤ n ∧ q = .int .i64 (k : Int) ∧ wx = wr) (fun q _ => n - (intOf q).toNat)
          case atStart => exact ⟨0, Nat.zero_le _, rfl, rfl⟩
          case round =>
            obtain ⟨k, hk, rfl, rfl⟩ := hrel
            by_cases hkn : k < n
            · have hkk : (k : Int) < (n : Int) := by omega
              have hk0 : (0 : Int) ≤ (k : Int) := by omega
              have hr0 := HRY.out.cell hkn
              go_wp2_with fail
              go_roundw
              case rel => exact ⟨k + 1, by omega, by go_num, trivial⟩
              case measure => simp [intOf]; omega
            · have hkk : ¬ (k : Int) < (n : Int) := by omega
              go_wp2_with fail
              go_ret
              exact ⟨rfl, HBF.out⟩
  · rw [hL] at CL
    go_wp2_with fail
    refine CL.out.mono ?_
    rintro e W3 ⟨rfl, hB3⟩
    go_wp2_with fail
    go_ret
    exact ⟨rfl, HB2.out.trans (hB3.mono HB2.out.size)⟩
end Go.Proofs.Ytbkgkgigcohbpaa
