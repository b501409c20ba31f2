import Derived.Test.YtbkgkgigcohbpaaO4
import Derived.Test.YtbkgkgigcohbpaaN1
namespace Go.Proofs.Ytbkgkgigcohbpaa
open Go.RowKit
set_option maxHeartbeats 1000000 in
theorem refCount_any (w : World) (M : Nat → Prop) (v : Value) (d : DrawD) (h : IsDraw w M v d) (h6 : nD d ≤ 6) :
    Calls Try.prog 12 #[v] w (NumE w (countD d)) := by
  have CK := fun W (hB : Below w.heap.size w W) => Lib.hid (refCheck_any W M v d (h.below hB))
  have HD := Lib.hid h
  obtain ⟨v1, v2, v3, rfl, -, -, -⟩ := h
  go_enter Try.func12, Try.ntmps12
  go_wp2_with fail
  refine nameW fun W1 hW1 => ?_
  have hB1 : Below w.heap.size w W1 := by rw [hW1.out]; exact (Below.refl w.heap.size w).alloc (Nat.le_refl _) _
  have hb1 : W1.heap[w.heap.size]? = some (.cells #[v1, v2, v3] 25 (0, 0)) := by rw [hW1.out, heap_alloc_if, if_pos rfl]
  refine (CK W1 hB1).out.mono ?_
  rintro e W2 ⟨rfl, hB2⟩
  have hb2 := (hB2.block w.heap.size (lt_heap hb1)).trans hb1
  have HB := Lib.hid (hB1.trans (hB2.mono hB1.size))
  have hx0 := cell_of (j := 0) hb2 rfl
  have hx1 := cell_of (j := 1) hb2 rfl
  have hx2 := cell_of (j := 2) hb2 rfl
  clear hB1 hB2 hW1 hb1 hb2 CK
  cases hc : checkB d
  · have HC := Lib.hid (show countD d = (0, 260) by unfold countD; rw [hc]; rfl)
    rw [checkD_no hc]
    go_wp2_with fail
    go_ret2
    exact ⟨by rw [HC.out]; rfl, HB.out⟩
  · rw [checkD_yes hc]
    have HC := Lib.hid hc
    clear hc
    go_wp2_with fail
    refine nameW fun W3 hW3 => ?_
    have hB3 : Below W2.heap.size W2 W3 := by rw [hW3.out]; exact (Below.refl _ _).alloc (Nat.le_refl _) _
    have HB3 := Lib.hid (HB.out.trans (hB3.mono HB.out.size))
    refine (outcomesD d HC.out h6 W3 M _ _ (HD.out.below HB3.out)).mono ?_
    rintro e W4 ⟨v4, rfl, hR4, hB4⟩
    obtain ⟨A4, c4, rfl⟩ := hR4.sl
    have HR := Lib.hid hR4
    have HB4 := Lib.hid (HB3.out.trans (hB4.mono HB3.out.size))
    have HL := Lib.hid (show (rowsD d).length = Rn (mayD d) (nD d) 0 by rw [rowsD_len, outsD_len])
    have hle := Rn_le (may := mayD d) (n := nD d) 0 (by omega)
    obtain ⟨R, hR⟩ : ∃ R, R = Rn (mayD d) (nD d) 0 := ⟨_, rfl⟩
    rw [← hR] at hle HL
    have eR : Value.slice A4 (rowsD d).length c4 = Value.slice A4 R c4 := by rw [HL.out]
    rw [eR]
    rw [eR] at HR
    have HRR := Lib.hid hR
    clear hW3 hB3 HB hx0 hx1 hx2 hR4 hB4 eR hR
    have hu : IntKind.u64.wrap (R : Int) = (R : Int) := by rw [IntKind.wrap_u64]; omega
    have hcd : countD d = (R, 0) := by unfold countD; rw [HC.out, HRR.out]; rfl
    have HCD := Lib.hid hcd
    clear hcd
    go_wp2_with fail
    go_ret2
    exact ⟨by rw [HCD.out]; rfl, HB4.out⟩
/-- in how many of the first i outcomes club r meets c; of the next one the first k pairs -/
def cntTo (d : DrawD) (i k r c : Nat) : Nat := ((outsD d).take i).countP (fun x => decide (x[r]? = some c)) + (if r < k ∧ ((outsD d).getD i [])[r]? = some c then 1 else 0)
theorem cntTo_zero (d : DrawD) (r c : Nat) : cntTo d 0 0 r c = 0 := by unfold cntTo; rw [if_neg (by omega)]; rfl
theorem cntTo_le (d : DrawD) (i k r c : Nat) : cntTo d i k r c ≤ Rn (mayD d) (nD d) 0 + 1 := by
  unfold cntTo
  have h1 := List.countP_le_length (p := fun x : List Nat => decide (x[r]? = some c)) (l := (outsD d).take i)
  have h2 : ((outsD d).take i).length ≤ (outsD d).length := by rw [List.length_take]; omega
  rw [outsD_len] at h2
  split <;> omega
theorem cntTo_step {d : DrawD} {i k c0 : Nat} (h : ((outsD d).getD i [])[k]? = some c0) (r c : Nat) : cntTo d i (k + 1) r c = if r = k ∧ c = c0 then cntTo d i k r c + 1 else cntTo d i k r c := by
  unfold cntTo
  by_cases e : r = k
  · subst e
    rw [h, if_neg (show ¬ (r < r ∧ some c0 = some c) by omega)]
    by_cases e2 : c = c0
    · rw [if_pos ⟨by omega, by rw [e2]⟩, if_pos ⟨rfl, e2⟩]
    · rw [if_neg (fun hh => e2 (Option.some.inj hh.2).symm), if_neg (fun hh => e2 hh.2)]
  · rw [if_neg (show ¬ (r = k ∧ c = c0) by omega)]
    congr 1
    by_cases e3 : r < k
    · by_cases e4 : ((outsD d).getD i [])[r]? = some c
      · rw [if_pos ⟨by omega, e4⟩, if_pos ⟨e3, e4⟩]
      · rw [if_neg (fun hh => e4 hh.2), if_neg (fun hh => e4 hh.2)]
    · rw [if_neg (by omega), if_neg (by omega)]
theorem cntTo_next {d : DrawD} {i : Nat} (hi : i < (outsD d).length) (r c : Nat) : cntTo d i (nD d) r c = cntTo d (i + 1) 0 r c := by
  have hx : (outsD d).getD i [] = (outsD d)[i] := by rw [List.getD_eq_getElem?_getD, List.getElem?_eq_getElem hi]; rfl
  unfold cntTo
  rw [hx, if_neg (show ¬ (r < 0 ∧ _) by omega), List.take_succ_eq_append_getElem hi, List.countP_append, Nat.add_zero]
  congr 1
  rw [List.countP_cons, List.countP_nil, Nat.zero_add]
  have hl := (outsD_ok (List.getElem_mem hi)).1
  by_cases e : (outsD d)[i][r]? = some c
  · have : r < nD d := by rw [← hl]; exact (List.getElem?_eq_some_iff.1 e).1
    rw [if_pos ⟨this, e⟩, if_pos (by simpa using e)]
  · rw [if_neg (fun hh => e hh.2), if_neg (by simpa using e)]
theorem cntTo_all (d : DrawD) (r c : Nat) : cntTo d (outsD d).length 0 r c = Tn0 (mayD d) (nD d) r c := by
  unfold cntTo
  rw [if_neg (by omega), List.take_length]; rfl
end Go.Proofs.Ytbkgkgigcohbpaa
