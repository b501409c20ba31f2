/- For every draw, number and list the law DrawOutcomeSpec of the given program returns true. -/
import Derived.Test.YtbkgkgigcohbpaaO4
namespace Go.Proofs.Ytbkgkgigcohbpaa
open Go.RowKit
theorem and_u64_some (x y : Int) : ∃ q : Nat, bits .and .u64 x y = (q : Int) := ⟨_, wrap_u64_nat _⟩
theorem few_n {d : DrawD} (h : fewD d = true) : nD d ≤ 6 := by
  unfold fewD at h
  rw [Bool.and_eq_true, decide_eq_true_eq] at h
  have := h.1
  unfold nD; omega
set_option maxHeartbeats 4000000 in
set_option maxRecDepth 8000 in
theorem law4 (w : World) (M M' : Nat → Prop) (v vp : Value) (d : DrawD) (h : IsDraw w M v d) (x : Nat) (ps : List Int) (hp : IsInts w M' vp ps) :
    Calls Try.prog 4 #[v, .int .u64 (x : Int), vp] w fun e w' => e = .returned (.bool true) ∧ Below w.heap.size w w' := by
  have HD := Lib.hid h
  have HP := Lib.hid hp
  obtain ⟨v1, v2, v3, rfl, -, -, -⟩ := h
  obtain ⟨A, c, rfl, -⟩ := hp
  go_enter Try.func4, Try.ntmps4
  go_wp2_with fail
  refine nameW fun W1 hW1 => ?_
  have hB1 : Below w.heap.size w W1 := by rw [hW1.out]; exact (Below.refl w.heap.size w).alloc (Nat.le_refl _) _
  have hb1 : W1.heap[w.heap.size]? = some (.cells #[v1, v2, v3] 25 (0, 0)) := by rw [hW1.out, heap_alloc_if, if_pos rfl]
  refine (sane_any W1).mono ?_
  rintro e W2 ⟨rfl, hB2⟩
  have hb2 := (hB2.block w.heap.size (lt_heap hb1)).trans hb1
  have HB2 := Lib.hid (hB1.trans (hB2.mono hB1.size))
  have HX2 := Lib.hid hb2
  have c0 := cell_of (j := 0) hb2 rfl
  have c1 := cell_of (j := 1) hb2 rfl
  have c2 := cell_of (j := 2) hb2 rfl
  clear hB1 hb1 hB2 hb2 hW1
  have CL := Lib.hid (few_any W2 M _ d (HD.out.below HB2.out))
  cases hF : fewD d
  · rw [hF] at CL
    go_wp2_with fail
    refine CL.out.mono ?_
    rintro e W3 ⟨rfl, hB3⟩
    go_wp2_with fail
    go_ret
    exact ⟨rfl, HB2.out.trans (hB3.mono HB2.out.size)⟩
  · rw [hF] at CL
    have h6 := few_n hF
    by_cases hl : 20 < ps.length
    · have hll : (20 : Int) < (ps.length : Int) := by omega
      go_wp2_with fail
      refine CL.out.mono ?_
      rintro e W3 ⟨rfl, hB3⟩
      go_wp2_with fail
      go_ret
      exact ⟨rfl, HB2.out.trans (hB3.mono HB2.out.size)⟩
    · have hll : ¬ (20 : Int) < (ps.length : Int) := by omega
      obtain ⟨y, hy⟩ := and_u64_some (x : Int) 7
      obtain ⟨z, hz⟩ := and_u64_some (x : Int) 127
      go_wp2_with fail
      refine CL.out.mono ?_
      rintro e W3 ⟨rfl, hB3⟩
      have hb3 := (hB3.block w.heap.size (lt_heap HX2.out)).trans HX2.out
      have HB3 := Lib.hid (HB2.out.trans (hB3.mono HB2.out.size))
      have HX3 := Lib.hid hb3
      clear c0 c1 c2
      have c0 := cell_of (j := 0) hb3 rfl
      have c1 := cell_of (j := 1) hb3 rfl
      have c2 := cell_of (j := 2) hb3 rfl
      clear hb3
      clear hB3 CL HB2 HX2
      go_wp2_with fail
      go_loopw [34] (fun q wr => ∃ j : Nat, j ≤ 3 ∧ q = .int .i64 (j : Int) ∧ Hid (wr.heap[W3.heap.size]? = some (.cells #[.int .u64 (x : Int), .int .u64 (y : Int), .int .u64 (z : Int)] 28 (0, 0))) ∧ Hid (Below W3.heap.size W3 wr)) (fun q _ => 3 - (intOf q).toNat)
      case atStart =>
        exact ⟨0, Nat.zero_le _, rfl, Lib.hid (by rw [heap_alloc_if, if_pos rfl]), Lib.hid ((Below.refl _ _).alloc (Nat.le_refl _) _)⟩
      case round =>
        obtain ⟨j, hj, rfl, HA, HBW⟩ := hrel
        have HB4 := Lib.hid (HB3.out.trans (HBW.out.mono HB3.out.size))
        have hb4 := (HBW.out.block w.heap.size (lt_heap HX3.out)).trans HX3.out
        have HX4 := Lib.hid hb4
        clear c0 c1 c2
        have c0 := cell_of (j := 0) hb4 rfl
        have c1 := cell_of (j := 1) hb4 rfl
        have c2 := cell_of (j := 2) hb4 rfl
        clear hb4
        by_cases hj3 : j < 3
        · have hjj : (j : Int) < 3 := by omega
          have hj0 : (0 : Int) ≤ (j : Int) := by omega
          obtain ⟨t, ht⟩ : ∃ t : Nat, wr.cell? ⟨W3.heap.size, j, none⟩ = some (.int .u64 (t : Int)) := by
            match j, hj3 with
            | 0, _ => exact ⟨x, cell_of (j := 0) HA.out rfl⟩
            | 1, _ => exact ⟨y, cell_of (j := 1) HA.out rfl⟩
            | 2, _ => exact ⟨z, cell_of (j := 2) HA.out rfl⟩
          have CO := Lib.hid (outcome_any wr M _ d (HD.out.below HB4.out) t)
          obtain ⟨r1, hr1⟩ : ∃ r1, r1 = (outcomeD d t).1 := ⟨_, rfl⟩
          obtain ⟨r2, hr2⟩ : ∃ r2, r2 = (outcomeD d t).2 := ⟨_, rfl⟩
          have HR := Lib.hid (And.intro hr1 hr2)
          clear hr1 hr2
          go_wp2_with fail
          refine CO.out.mono ?_
          rintro e W5 ⟨v5, rfl, h5, hB5⟩
          rw [← HR.out.1] at h5
          rw [← HR.out.2]
          have hb5 := (hB5.block w.heap.size (lt_heap HX4.out)).trans HX4.out
          have HB5 := Lib.hid (HB4.out.trans (hB5.mono HB4.out.size))
          have HX5 := Lib.hid hb5
          clear c0 c1 c2
          have c0 := cell_of (j := 0) hb5 rfl
          have c1 := cell_of (j := 1) hb5 rfl
          have c2 := cell_of (j := 2) hb5 rfl
          clear hb5
          have H5 := Lib.hid h5
          have HA5 := Lib.hid ((hB5.block _ (lt_heap HA.out)).trans HA.out)
          have HBW5 := Lib.hid (HBW.out.trans (hB5.mono HBW.out.size))
          have CR := Lib.hid (refOutcome_any W5 M _ d (HD.out.below HB5.out) h6 t)
          clear h5 hB5 CO ht
          go_wp2_with fail
          refine CR.out.mono ?_
          rintro e W6 ⟨v6, rfl, h6', hB6⟩
          rw [← HR.out.1] at h6'
          rw [← HR.out.2]
          have CS := Lib.hid (same_any W6 _ _ _ _ _ _ (IsSl.below H5.out hB6) h6')
          rw [decide_eq_true rfl] at CS
          have HA6 := Lib.hid ((hB6.block _ (lt_heap HA5.out)).trans HA5.out)
          have HBW6 := Lib.hid (HBW5.out.trans (hB6.mono HBW5.out.size))
          clear h6' hB6 CR c0 c1 c2
          go_wp2_with fail
          refine CS.out.mono ?_
          rintro e W7 ⟨rfl, hD7⟩
          have HA7 := Lib.hid ((hD7.below.block _ (lt_heap HA6.out)).trans HA6.out)
          have HBW7 := Lib.hid (HBW6.out.trans (hD7.below.mono HBW6.out.size))
          clear hD7
          go_wp2_with fail
          go_roundw
          case rel => exact ⟨j + 1, by omega, by go_num, HA7, HBW7⟩
          case measure => simp [intOf]; omega
        · have hjj : ¬ (j : Int) < 3 := by omega
          have CN := Lib.hid (number_any wr (fun _ => True) _ _ d ps (HD.out.below HB4.out).tt (IsInts.tt (IsSl.below HP.out HB4.out)))
          obtain ⟨r1, hr1⟩ : ∃ r1, r1 = (numberD d ps).1 := ⟨_, rfl⟩
          obtain ⟨r2, hr2⟩ : ∃ r2, r2 = (numberD d ps).2 := ⟨_, rfl⟩
          have HR := Lib.hid (And.intro hr1 hr2)
          clear hr1 hr2
          go_wp2_with fail
          refine CN.out.mono ?_
          rintro e W5 ⟨rfl, hB5⟩
          rw [← HR.out.1, ← HR.out.2]
          have hb5 := (hB5.block w.heap.size (lt_heap HX4.out)).trans HX4.out
          have HB5 := Lib.hid (HB4.out.trans (hB5.mono HB4.out.size))
          have HX5 := Lib.hid hb5
          clear c0 c1 c2
          have c0 := cell_of (j := 0) hb5 rfl
          have c1 := cell_of (j := 1) hb5 rfl
          have c2 := cell_of (j := 2) hb5 rfl
          clear hb5
          have CR := Lib.hid (refNumber_any W5 M _ _ _ d ps (HD.out.below HB5.out) (IsSl.below HP.out HB5.out) h6)
          clear hB5 CN
          go_wp2_with fail
          refine CR.out.mono ?_
          rintro e W6 ⟨rfl, hB6⟩
          rw [← HR.out.1, ← HR.out.2]
          go_wp2_with fail
          go_ret
          exact ⟨rfl, HB5.out.trans (hB6.mono HB5.out.size)⟩
end Go.Proofs.Ytbkgkgigcohbpaa
