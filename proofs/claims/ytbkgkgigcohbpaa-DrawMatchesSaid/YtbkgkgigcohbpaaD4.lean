import Derived.Test.YtbkgkgigcohbpaaD3
namespace Go.Proofs.Ytbkgkgigcohbpaa
open Go.RowKit
/-- a number and a code -/
def NumE (w : World) (r : Nat × Int) (e : Ending) (w' : World) : Prop := e = .returned (.tuple #[.int .u64 (r.1 : Int), .int .i64 r.2]) ∧ Below w.heap.size w w'
def nD (d : DrawD) : Nat := d.first.length
def countD (d : DrawD) : Nat × Int := if checkB d then (Rn (mayD d) (nD d) 0, 0) else (0, 260)
theorem checkD_yes {d : DrawD} (h : checkB d = true) : checkD d = 0 := by unfold checkD; rw [if_pos h]
theorem checkD_no {d : DrawD} (h : checkB d = false) : checkD d = 260 := by unfold checkD; rw [h]; rfl
theorem checkB_len {d : DrawD} (h : checkB d = true) : 1 ≤ nD d ∧ nD d ≤ 16 ∧ nD d = d.second.length ∧ potB d.first = true ∧ potB d.second = true := by
  unfold checkB at h
  simp only [Bool.and_eq_true, decide_eq_true_eq] at h
  exact ⟨(potB_len h.1.1).1, (potB_len h.1.1).2, h.1.2.2.1, h.1.1, h.1.2.1⟩
theorem count_any (w : World) (M : Nat → Prop) (v : Value) (d : DrawD) (h : IsDraw w M v d) :
    Calls Try.prog 11 #[v] w (NumE w (countD d)) := by
  have CK := fun W (hB : Below w.heap.size w W) => Lib.hid (check_any W M v d (h.below hB))
  have HD := Lib.hid h
  obtain ⟨v1, v2, v3, rfl, -, -, -⟩ := h
  cases hc : checkB d
  · have HC := Lib.hid (show countD d = (0, 260) by unfold countD; rw [hc]; rfl)
    rw [checkD_no hc] at CK
    go_enter Try.func11, Try.ntmps11
    go_wp2_with fail
    refine nameW fun W1 hW1 => ?_
    have hB1 : Below w.heap.size w W1 := by rw [hW1.out]; exact (Below.refl w.heap.size w).alloc (Nat.le_refl _) _
    refine (CK W1 hB1).out.mono ?_
    rintro e W2 ⟨rfl, hB2⟩
    clear hW1
    have HB := Lib.hid (hB1.trans (hB2.mono hB1.size))
    clear hB1 hB2
    go_wp2_with fail
    go_ret2
    exact ⟨by rw [HC.out]; rfl, HB.out⟩
  · have HC := Lib.hid (show countD d = (Rn (mayD d) (nD d) 0, 0) by unfold countD; rw [hc]; rfl)
    rw [checkD_yes hc] at CK
    have CP := fun W (hB : Below w.heap.size w W) => Lib.hid (prepare_any W M _ d (HD.out.below hB) hc)
    go_enter Try.func11, Try.ntmps11
    go_wp2_with fail
    refine nameW fun W1 hW1 => ?_
    have hB1 : Below w.heap.size w W1 := by rw [hW1.out]; exact (Below.refl w.heap.size w).alloc (Nat.le_refl _) _
    have hb1 : W1.heap[w.heap.size]? = some (.cells #[v1, v2, v3] 25 (0, 0)) := by rw [hW1.out, heap_alloc_if, if_pos rfl]
    refine (CK W1 hB1).out.mono ?_
    rintro e W2 ⟨rfl, hB2⟩
    have hb2 := (hB2.block w.heap.size (lt_heap hb1)).trans hb1
    have HB := Lib.hid (hB1.trans (hB2.mono hB1.size))
    have hx0 := cell_of (j := 0) hb2 rfl
    have hx1 := cell_of (j := 1) hb2 rfl
    have hx2 := cell_of (j := 2) hb2 rfl
    clear hB1 hB2 hW1 hb1 hb2
    go_wp2_with fail
    refine (CP W2 HB.out).out.mono ?_
    rintro e W3 ⟨g, rfl, ⟨br, bn, bd, hne, hcn, hmw⟩, hg, hB3⟩
    have HB3 := Lib.hid (HB.out.trans (hB3.mono HB.out.size))
    have hcb := hcn.1
    have hc2 : W3.cell? ⟨g, 2, none⟩ = some (.slice (some ⟨br, 0, none⟩) (2 ^ d.first.length) (2 ^ d.first.length)) := cell_of (j := 2) hcb rfl
    have hr0 := hcn.2.cell (i := 0) (Nat.two_pow_pos _)
    have hp0 : 0 < 2 ^ d.first.length := Nat.two_pow_pos _
    clear hcb hcn hmw hx0 hx1 hx2 hB3
    generalize 2 ^ d.first.length = S at *
    have hp1 : (0 : Int) < (S : Int) := by omega
    go_wp2_with fail
    go_ret2
    exact ⟨by rw [HC.out]; rfl, HB3.out⟩
end Go.Proofs.Ytbkgkgigcohbpaa
