import Derived.Test.YtbkgkgigcohbpaaO2
namespace Go.Proofs.Ytbkgkgigcohbpaa
open Go.RowKit
def rowsD (d : DrawD) : List (List Int) := (outsD d).map ofN
theorem rowsD_len (d : DrawD) : (rowsD d).length = (outsD d).length := by simp [rowsD]
theorem rowsD_at {d : DrawD} {k : Nat} (hk : k < (outsD d).length) : (rowsD d).getD k [] = ofN ((outsD d).getD k []) := by
  unfold rowsD
  rw [List.getD_eq_getElem?_getD, List.getElem?_map, List.getElem?_eq_getElem hk, List.getD_eq_getElem?_getD, List.getElem?_eq_getElem hk]; rfl
theorem outcomesD (d : DrawD) (hc : checkB d = true) (h6 : nD d ≤ 6) (w : World) (M : Nat → Prop) (v : Value) (b : Nat) (h : IsDraw w M v d) :
    Calls Try.prog 29 #[v, .slice (some ⟨b, 0, none⟩) 0 0] w fun e w' => ∃ v', e = .returned v' ∧ RowsW w' w.heap.size v' (rowsD d) ∧ Below w.heap.size w w' := by
  have ht : TInts w (.slice (some ⟨b, 0, none⟩) 0 0) (ofN []) := ⟨_, _, rfl, Nat.le_refl _, by decide, fun hn => absurd hn (by simp [ofN])⟩
  have := outcomes_any d hc h6 (nD d) w M v _ [] h ht (by simp) (pcn_zero _) (Nat.two_pow_pos _)
  have e : ((outs (mayD d) (nD d) (nD d) ([] : List Nat).length (setOf [] 0)).map fun x => ofN ([] ++ x)) = rowsD d := by
    unfold rowsD outsD On
    rw [pcn_zero]; rfl
  rw [e] at this
  exact this
set_option maxHeartbeats 1000000 in
theorem refOutcome_any (w : World) (M : Nat → Prop) (v : Value) (d : DrawD) (h : IsDraw w M v d) (h6 : nD d ≤ 6) (k : Nat) :
    Calls Try.prog 19 #[v, .int .u64 (k : Int)] w fun e w' => ∃ v', e = .returned (.tuple #[v', .int .i64 (outcomeD d k).2]) ∧ IsInts w' (fun _ => True) v' (outcomeD d k).1 ∧ Below w.heap.size w w' := by
  have CK := fun W (hB : Below w.heap.size w W) => Lib.hid (refCheck_any W M v d (h.below hB))
  have HD := Lib.hid h
  obtain ⟨v1, v2, v3, rfl, -, -, -⟩ := h
  go_enter Try.func19, Try.ntmps19
  go_wp2_with fail
  refine nameW fun W1 hW1 => ?_
  have hB1 : Below w.heap.size w W1 := by rw [hW1.out]; exact (Below.refl w.heap.size w).alloc (Nat.le_refl _) _
  have hb1 : W1.heap[w.heap.size]? = some (.cells #[v1, v2, v3] 25 (0, 0)) := by rw [hW1.out, heap_alloc_if, if_pos rfl]
  refine (CK W1 hB1).out.mono ?_
  rintro e W2 ⟨rfl, hB2⟩
  have hb2 := (hB2.block w.heap.size (lt_heap hb1)).trans hb1
  have HB := Lib.hid (hB1.trans (hB2.mono hB1.size))
  have hx0 := cell_of (j := 0) hb2 rfl
  have hx1 := cell_of (j := 1) hb2 rfl
  have hx2 := cell_of (j := 2) hb2 rfl
  clear hB1 hB2 hW1 hb1 hb2 CK
  cases hc : checkB d
  · have HC := Lib.hid (outcomeD_no (k := k) hc)
    rw [checkD_no hc]
    go_wp2_with fail
    go_ret2
    exact ⟨.slice none 0 0, by rw [HC.out]; rfl, by rw [HC.out]; exact IsSl.nil, HB.out⟩
  · rw [checkD_yes hc]
    have HC := Lib.hid hc
    clear hc
    go_wp2_with fail
    refine nameW fun W3 hW3 => ?_
    have hB3 : Below W2.heap.size W2 W3 := by rw [hW3.out]; exact (Below.refl _ _).alloc (Nat.le_refl _) _
    have HB3 := Lib.hid (HB.out.trans (hB3.mono HB.out.size))
    refine (outcomesD d HC.out h6 W3 M _ _ (HD.out.below HB3.out)).mono ?_
    rintro e W4 ⟨v4, rfl, hR4, hB4⟩
    obtain ⟨A4, c4, rfl⟩ := hR4.sl
    have HR := Lib.hid hR4
    have HB4 := Lib.hid (HB3.out.trans (hB4.mono HB3.out.size))
    have HL := Lib.hid (show (rowsD d).length = Rn (mayD d) (nD d) 0 by rw [rowsD_len, outsD_len])
    have hle := Rn_le (may := mayD d) (n := nD d) 0 (by omega)
    obtain ⟨R, hR⟩ : ∃ R, R = Rn (mayD d) (nD d) 0 := ⟨_, rfl⟩
    rw [← hR] at hle HL
    have eR : Value.slice A4 (rowsD d).length c4 = Value.slice A4 R c4 := by rw [HL.out]
    rw [eR]
    rw [eR] at HR
    have HRR := Lib.hid hR
    clear hW3 hB3 HB hx0 hx1 hx2 hR4 hB4 eR hR
    have hu : IntKind.u64.wrap (R : Int) = (R : Int) := by rw [IntKind.wrap_u64]; omega
    by_cases hz : R = 0
    · have HO := Lib.hid (outcomeD_never (k := k) HC.out (by rw [← HRR.out]; exact hz))
      subst hz
      go_wp2_with fail
      go_ret2
      exact ⟨.slice none 0 0, by rw [HO.out]; rfl, by rw [HO.out]; exact IsSl.nil, HB4.out⟩
    · have hz1 : ((R : Int) == 0) = false := by rw [beq_eq_false_iff_ne]; omega
      have hz2 : ¬ (R : Int) = 0 := by omega
      by_cases hk : R ≤ k
      · have HO := Lib.hid (outcomeD_arg (k := k) HC.out (by rw [← HRR.out]; exact hz) (by rw [← HRR.out]; exact hk))
        have hkk : (R : Int) ≤ (k : Int) := by omega
        clear hz hk
        go_wp2_with fail
        go_ret2
        exact ⟨.slice none 0 0, by rw [HO.out]; rfl, by rw [HO.out]; exact IsSl.nil, HB4.out⟩
      · have HO := Lib.hid (outcomeD_yes (k := k) HC.out (by rw [← HRR.out]; omega))
        have hkl : k < (outsD d).length := by rw [outsD_len, ← HRR.out]; omega
        obtain ⟨b, A', c', rfl, f1, hT⟩ := HR.out.at_ (Below.refl _ _) (show k < (rowsD d).length by rw [rowsD_len]; exact hkl)
        rw [rowsD_at hkl] at f1 hT
        generalize (outsD d).getD k [] = x at f1 hT HO
        have HT := Lib.hid hT
        have hkk : ¬ (R : Int) ≤ (k : Int) := by omega
        have hkr : (k : Int) < (R : Int) := by omega
        have hk0 : (0 : Int) ≤ (k : Int) := by omega
        clear hz hk hT
        go_wp2_with fail
        go_ret2
        exact ⟨_, by rw [HO.out]; rfl, by rw [HO.out]; exact IsInts.tt HT.out, HB4.out⟩
end Go.Proofs.Ytbkgkgigcohbpaa
