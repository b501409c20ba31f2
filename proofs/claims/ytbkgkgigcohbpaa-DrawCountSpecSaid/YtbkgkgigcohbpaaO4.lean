import Derived.Test.YtbkgkgigcohbpaaO3
namespace Go.Proofs.Ytbkgkgigcohbpaa
open Go.RowKit
set_option maxHeartbeats 1000000 in
theorem refNumber_any (w : World) (M M' : Nat → Prop) (v vp : Value) (d : DrawD) (ps : List Int) (h : IsDraw w M v d) (hp : IsInts w M' vp ps) (h6 : nD d ≤ 6) :
    Calls Try.prog 22 #[v, vp] w (NumE w (numberD d ps)) := by
  have CK := fun W (hB : Below w.heap.size w W) => Lib.hid (refCheck_any W M v d (h.below hB))
  have HD := Lib.hid h
  have HP := Lib.hid hp
  obtain ⟨v1, v2, v3, rfl, -, -, -⟩ := h
  go_enter Try.func22, Try.ntmps22
  go_wp2_with fail
  refine nameW fun W1 hW1 => ?_
  have hB1 : Below w.heap.size w W1 := by rw [hW1.out]; exact (Below.refl w.heap.size w).alloc (Nat.le_refl _) _
  have hb1 : W1.heap[w.heap.size]? = some (.cells #[v1, v2, v3] 25 (0, 0)) := by rw [hW1.out, heap_alloc_if, if_pos rfl]
  refine (CK W1 hB1).out.mono ?_
  rintro e W2 ⟨rfl, hB2⟩
  have hb2 := (hB2.block w.heap.size (lt_heap hb1)).trans hb1
  have HB := Lib.hid (hB1.trans (hB2.mono hB1.size))
  have hx0 := cell_of (j := 0) hb2 rfl
  have hx1 := cell_of (j := 1) hb2 rfl
  have hx2 := cell_of (j := 2) hb2 rfl
  clear hB1 hB2 hW1 hb1 hb2 CK
  cases hc : checkB d
  · have HC := Lib.hid (numberD_bad (ps := ps) hc)
    rw [checkD_no hc]
    go_wp2_with fail
    go_ret2
    exact ⟨by rw [HC.out]; rfl, HB.out⟩
  · rw [checkD_yes hc]
    have HC := Lib.hid hc
    clear hc
    go_wp2_with fail
    refine nameW fun W3 hW3 => ?_
    have hB3 : Below W2.heap.size W2 W3 := by rw [hW3.out]; exact (Below.refl _ _).alloc (Nat.le_refl _) _
    have HB3 := Lib.hid (HB.out.trans (hB3.mono HB.out.size))
    refine (outcomesD d HC.out h6 W3 M _ _ (HD.out.below HB3.out)).mono ?_
    rintro e W4 ⟨v4, rfl, hR4, hB4⟩
    obtain ⟨A4, c4, rfl⟩ := hR4.sl
    have HR := Lib.hid hR4
    have HB4 := Lib.hid (HB3.out.trans (hB4.mono HB3.out.size))
    have HL := Lib.hid (show (rowsD d).length = Rn (mayD d) (nD d) 0 by rw [rowsD_len, outsD_len])
    have hle := Rn_le (may := mayD d) (n := nD d) 0 (by omega)
    obtain ⟨R, hR⟩ : ∃ R, R = Rn (mayD d) (nD d) 0 := ⟨_, rfl⟩
    rw [← hR] at hle HL
    have eR : Value.slice A4 (rowsD d).length c4 = Value.slice A4 R c4 := by rw [HL.out]
    rw [eR]
    rw [eR] at HR
    have HRR := Lib.hid hR
    clear hW3 hB3 HB hx0 hx1 hx2 hR4 hB4 eR hR
    go_wp2_with fail
    go_loopw [8] (fun q wr => ∃ k : Nat, k ≤ R ∧ q = .int .i64 (k : Int) ∧ Hid (∀ j, j < k → ofN ((outsD d).getD j []) ≠ ps) ∧ Hid (Dr W4 wr)) (fun q _ => R - (intOf q).toNat)
    case atStart => exact ⟨0, Nat.zero_le _, rfl, Lib.hid (fun j hj => absurd hj (by omega)), Lib.hid (Dr.refl _)⟩
    case round =>
      obtain ⟨k, hk, rfl, HS, HDR⟩ := hrel
      by_cases hkr : k < R
      · have hkl : k < (outsD d).length := by rw [outsD_len, ← HRR.out]; exact hkr
        obtain ⟨b, A', c', rfl, f1, hT⟩ := HR.out.at_ HDR.out.below (show k < (rowsD d).length by rw [rowsD_len]; exact hkl)
        rw [rowsD_at hkl] at f1 hT
        have HBW := Lib.hid (HB4.out.trans (HDR.out.below.mono HB4.out.size))
        have CS := Lib.hid (same_any wr _ _ _ _ _ _ hT (IsSl.below HP.out HBW.out))
        have hkk : (k : Int) < (R : Int) := by omega
        have hk0 : (0 : Int) ≤ (k : Int) := by omega
        have hu : IntKind.u64.wrap (k : Int) = (k : Int) := by rw [IntKind.wrap_u64]; omega
        have HKL := Lib.hid hkl
        obtain ⟨x, hx⟩ : ∃ x, x = (outsD d).getD k [] := ⟨_, rfl⟩
        rw [← hx] at f1 CS
        have HX := Lib.hid hx
        clear hT hkl hx
        by_cases hps : ofN x = ps
        · rw [decide_eq_true hps] at CS
          have HE := Lib.hid hps
          clear hps
          go_wp2_with fail
          refine CS.out.mono ?_
          rintro e W5 ⟨rfl, hW5⟩
          go_wp2_with fail
          go_ret2
          have hn := numberD_at (k := k) (x := x) HC.out (by rw [HX.out, List.getD_eq_getElem?_getD, List.getElem?_eq_getElem HKL.out]; rfl) HE.out
          exact ⟨by rw [hn]; rfl, HBW.out.trans (hW5.below.mono HBW.out.size)⟩
        · rw [decide_eq_false hps] at CS
          have HE := Lib.hid hps
          clear hps
          go_wp2_with fail
          refine CS.out.mono ?_
          rintro e W5 ⟨rfl, hW5⟩
          have HD5 := Lib.hid (show Dr W4 W5 from by obtain ⟨n1, h1⟩ := HDR.out; obtain ⟨n2, h2⟩ := hW5; exact ⟨n1 + n2, by rw [h2, h1, World.drewN_drewN]⟩)
          clear hW5
          go_wp2_with fail
          go_roundw
          case rel => exact ⟨k + 1, by omega, by go_num, Lib.hid (fun j hj => by
            rcases Nat.lt_or_ge j k with h3 | h3
            · exact HS.out j h3
            · rw [show j = k by omega, ← HX.out]; exact HE.out), HD5⟩
          case measure => simp [intOf]; omega
      · have hkk : ¬ (k : Int) < (R : Int) := by omega
        go_wp2_with fail
        go_ret2
        have hn := numberD_not (ps := ps) HC.out (fun x hx => by
          obtain ⟨j, hj, rfl⟩ := List.mem_iff_getElem.1 hx
          have := HS.out j (by rw [outsD_len, ← HRR.out] at hj; omega)
          rwa [List.getD_eq_getElem?_getD, List.getElem?_eq_getElem hj] at this)
        exact ⟨by rw [hn]; rfl, HB4.out.trans (HDR.out.below.mono HB4.out.size)⟩
end Go.Proofs.Ytbkgkgigcohbpaa
