/- Reached and Missed. -/
import Derived.Test.YthlnfjbedehjdaaA5
namespace Go.Proofs.Ythlnfjbedehjdaa
open Go.RowKit Go.Shelf

set_option maxRecDepth 20000 in
set_option maxHeartbeats 4000000 in
theorem reached_any (w : World) (M M' : Nat → Prop) (v u : Value) (q : RaceD) (outs : List Int) (h : IsRace w M v q) (h' : IsInts w M' u outs) (hlen : outs.length ≤ 140737488355328) : Calls Try.prog 11 #[v, u] w (RetE (reachedR q outs) w) := by
  obtain ⟨cA, cc, pA, pc, oA, oc, rfl, hc, hp, ho⟩ := h.parts
  obtain ⟨uA, uc, rfl, hu1, hu2, hu3⟩ := id h'
  have HR := Lib.hid h
  have HU := Lib.hid h'
  clear hc hp ho h h' hu1 hu2 hu3
  have CC := fun (W : World) (hB : Below w.heap.size w W) => Lib.hid (compl_any W M M' _ _ q outs (HR.out.below hB) (IsSl.below HU.out hB) hlen)
  obtain ⟨z, hz⟩ : ∃ z, z = reachedR q outs := ⟨_, rfl⟩
  have HZ := Lib.hid hz
  rw [← hz]
  clear hz hlen
  go_enter Try.func11, Try.ntmps11
  go_wp2_with fail
  refine nameW fun W1 hW1 => ?_
  have hb1 : Below w.heap.size w W1 := by rw [hW1.out]; exact (Below.refl _ _).alloc (Nat.le_refl _) _
  have k0 : W1.heap[w.heap.size]? = some (.cells #[.int .i64 q.win, .int .i64 q.draw, .slice cA q.clubs.length cc, .slice pA q.points.length pc, .slice oA q.opn.length oc, .int .i64 q.club, .int .i64 q.place] 25 (0, 0)) := by rw [hW1.out]; exact heap_alloc_new _ _
  have K0 := Lib.hid k0
  have HB1 := Lib.hid hb1
  clear hW1 hb1 k0
  refine (CC W1 HB1.out).out.mono ?_
  rintro e W2 ⟨rfl, hb⟩
  replace K0 := Lib.hid ((hb.block _ (lt_heap K0.out)).trans K0.out)
  replace HB1 := Lib.hid (HB1.out.trans (hb.mono HB1.out.size))
  clear hb CC
  by_cases hv : validB q = true
  · by_cases hco : complB q outs = true
    · have hcr : complR q outs = 0 := by unfold complR; rw [if_pos hv, if_pos hco]
      rw [hcr, hv, show (if true = true then (.agg #[.int .i64 q.win, .int .i64 q.draw, .slice cA q.clubs.length cc, .slice pA q.points.length pc, .slice oA q.opn.length oc, .int .i64 q.club, .int .i64 q.place] : Value) else zeroRV) = .agg #[.int .i64 q.win, .int .i64 q.draw, .slice cA q.clubs.length cc, .slice pA q.points.length pc, .slice oA q.opn.length oc, .int .i64 q.club, .int .i64 q.place] from rfl]
      have hzz : z = if q.place ≤ moreR q (finR q outs) then 290 else 0 := by rw [HZ.out]; unfold reachedR; rw [if_pos hv, if_pos hco]
      have hol : outs.length = q.opn.length := by unfold complB at hco; simp only [Bool.and_eq_true, decide_eq_true_eq] at hco; exact hco.1
      have HVV := Lib.hid (validB_iff.1 hv)
      have HOL := Lib.hid hol
      have HZZ := Lib.hid hzz
      clear hv hco hcr hol hzz
      go_wp2_with fail
      refine nameW fun W3 hW3 => ?_
      have hb3 : Below w.heap.size w W3 := by rw [hW3.out]; exact HB1.out.alloc HB1.out.size _
      have k3 : W3.heap[w.heap.size]? = some (.cells #[.int .i64 q.win, .int .i64 q.draw, .slice cA q.clubs.length cc, .slice pA q.points.length pc, .slice oA q.opn.length oc, .int .i64 q.club, .int .i64 q.place] 25 (0, 0)) := by
        rw [hW3.out, heap_alloc_if, if_neg (by have := lt_heap K0.out; omega)]; exact K0.out
      refine (above_any W3 M M' _ _ q outs (HR.out.below hb3) (IsSl.below HU.out hb3) HVV.out HOL.out).mono ?_
      rintro e W4 ⟨rfl, hb⟩
      have HB4 := Lib.hid (hb3.trans (hb.mono hb3.size))
      have k4 := (hb.block _ (lt_heap k3)).trans k3
      have r6 := cell_of (j := 6) k4 rfl
      obtain ⟨more, hmo⟩ : ∃ x, x = moreR q (finR q outs) := ⟨_, rfl⟩
      obtain ⟨many, hma⟩ : ∃ x, x = manyR q (finR q outs) := ⟨_, rfl⟩
      rw [← hmo, ← hma]
      have hzz := HZZ.out
      (first | rw [← hmo] at hzz | rw [← hma] at hzz)
      clear hW3 hb3 k3 k4 hb hmo hma
      by_cases ht : q.place ≤ (more : Int)
      · rw [if_pos ht] at hzz
        have d1 : decide (q.place ≤ (more : Int)) = true := decide_eq_true ht
        have HQ := Lib.hid hzz
        clear hzz ht
        go_wp2_with fail
        go_ret
        exact ⟨ret_int HQ.out.symm, HB4.out⟩
      · rw [if_neg ht] at hzz
        have d1 : decide (q.place ≤ (more : Int)) = false := decide_eq_false ht
        have HQ := Lib.hid hzz
        clear hzz ht
        go_wp2_with fail
        go_ret
        exact ⟨ret_int HQ.out.symm, HB4.out⟩
    · have hcf : complB q outs = false := by simpa using hco
      have hcr : complR q outs = 1 := by unfold complR; rw [if_pos hv, if_neg hco]
      have HQ := Lib.hid (show z = 1 by rw [HZ.out]; unfold reachedR; rw [if_pos hv, if_neg hco])
      rw [hcr, hv, show (if true = true then (.agg #[.int .i64 q.win, .int .i64 q.draw, .slice cA q.clubs.length cc, .slice pA q.points.length pc, .slice oA q.opn.length oc, .int .i64 q.club, .int .i64 q.place] : Value) else zeroRV) = .agg #[.int .i64 q.win, .int .i64 q.draw, .slice cA q.clubs.length cc, .slice pA q.points.length pc, .slice oA q.opn.length oc, .int .i64 q.club, .int .i64 q.place] from rfl]
      clear hv hco hcf hcr
      go_wp2_with fail
      go_ret
      exact ⟨ret_int HQ.out.symm, HB1.out.alloc HB1.out.size _⟩
  · have hvf : validB q = false := by simpa using hv
    have hcr : complR q outs = 280 := by unfold complR; rw [if_neg hv]
    have HQ := Lib.hid (show z = 280 by rw [HZ.out]; unfold reachedR; rw [if_neg hv])
    rw [hcr, hvf, show (if false = true then (.agg #[.int .i64 q.win, .int .i64 q.draw, .slice cA q.clubs.length cc, .slice pA q.points.length pc, .slice oA q.opn.length oc, .int .i64 q.club, .int .i64 q.place] : Value) else zeroRV) = .agg #[.int .i64 0, .int .i64 0, .slice none 0 0, .slice none 0 0, .slice none 0 0, .int .i64 0, .int .i64 0] from rfl]
    clear hv hvf hcr
    go_wp2_with fail
    go_ret
    exact ⟨ret_int HQ.out.symm, HB1.out.alloc HB1.out.size _⟩
set_option maxRecDepth 20000 in
set_option maxHeartbeats 4000000 in
theorem missed_any (w : World) (M M' : Nat → Prop) (v u : Value) (q : RaceD) (outs : List Int) (h : IsRace w M v q) (h' : IsInts w M' u outs) (hlen : outs.length ≤ 140737488355328) : Calls Try.prog 13 #[v, u] w (RetE (missedR q outs) w) := by
  obtain ⟨cA, cc, pA, pc, oA, oc, rfl, hc, hp, ho⟩ := h.parts
  obtain ⟨uA, uc, rfl, hu1, hu2, hu3⟩ := id h'
  have HR := Lib.hid h
  have HU := Lib.hid h'
  clear hc hp ho h h' hu1 hu2 hu3
  have CC := fun (W : World) (hB : Below w.heap.size w W) => Lib.hid (compl_any W M M' _ _ q outs (HR.out.below hB) (IsSl.below HU.out hB) hlen)
  obtain ⟨z, hz⟩ : ∃ z, z = missedR q outs := ⟨_, rfl⟩
  have HZ := Lib.hid hz
  rw [← hz]
  clear hz hlen
  go_enter Try.func13, Try.ntmps13
  go_wp2_with fail
  refine nameW fun W1 hW1 => ?_
  have hb1 : Below w.heap.size w W1 := by rw [hW1.out]; exact (Below.refl _ _).alloc (Nat.le_refl _) _
  have k0 : W1.heap[w.heap.size]? = some (.cells #[.int .i64 q.win, .int .i64 q.draw, .slice cA q.clubs.length cc, .slice pA q.points.length pc, .slice oA q.opn.length oc, .int .i64 q.club, .int .i64 q.place] 25 (0, 0)) := by rw [hW1.out]; exact heap_alloc_new _ _
  have K0 := Lib.hid k0
  have HB1 := Lib.hid hb1
  clear hW1 hb1 k0
  refine (CC W1 HB1.out).out.mono ?_
  rintro e W2 ⟨rfl, hb⟩
  replace K0 := Lib.hid ((hb.block _ (lt_heap K0.out)).trans K0.out)
  replace HB1 := Lib.hid (HB1.out.trans (hb.mono HB1.out.size))
  clear hb CC
  by_cases hv : validB q = true
  · by_cases hco : complB q outs = true
    · have hcr : complR q outs = 0 := by unfold complR; rw [if_pos hv, if_pos hco]
      rw [hcr, hv, show (if true = true then (.agg #[.int .i64 q.win, .int .i64 q.draw, .slice cA q.clubs.length cc, .slice pA q.points.length pc, .slice oA q.opn.length oc, .int .i64 q.club, .int .i64 q.place] : Value) else zeroRV) = .agg #[.int .i64 q.win, .int .i64 q.draw, .slice cA q.clubs.length cc, .slice pA q.points.length pc, .slice oA q.opn.length oc, .int .i64 q.club, .int .i64 q.place] from rfl]
      have hzz : z = if manyR q (finR q outs) < q.place then 290 else 0 := by rw [HZ.out]; unfold missedR; rw [if_pos hv, if_pos hco]
      have hol : outs.length = q.opn.length := by unfold complB at hco; simp only [Bool.and_eq_true, decide_eq_true_eq] at hco; exact hco.1
      have HVV := Lib.hid (validB_iff.1 hv)
      have HOL := Lib.hid hol
      have HZZ := Lib.hid hzz
      clear hv hco hcr hol hzz
      go_wp2_with fail
      refine nameW fun W3 hW3 => ?_
      have hb3 : Below w.heap.size w W3 := by rw [hW3.out]; exact HB1.out.alloc HB1.out.size _
      have k3 : W3.heap[w.heap.size]? = some (.cells #[.int .i64 q.win, .int .i64 q.draw, .slice cA q.clubs.length cc, .slice pA q.points.length pc, .slice oA q.opn.length oc, .int .i64 q.club, .int .i64 q.place] 25 (0, 0)) := by
        rw [hW3.out, heap_alloc_if, if_neg (by have := lt_heap K0.out; omega)]; exact K0.out
      refine (above_any W3 M M' _ _ q outs (HR.out.below hb3) (IsSl.below HU.out hb3) HVV.out HOL.out).mono ?_
      rintro e W4 ⟨rfl, hb⟩
      have HB4 := Lib.hid (hb3.trans (hb.mono hb3.size))
      have k4 := (hb.block _ (lt_heap k3)).trans k3
      have r6 := cell_of (j := 6) k4 rfl
      obtain ⟨more, hmo⟩ : ∃ x, x = moreR q (finR q outs) := ⟨_, rfl⟩
      obtain ⟨many, hma⟩ : ∃ x, x = manyR q (finR q outs) := ⟨_, rfl⟩
      rw [← hmo, ← hma]
      have hzz := HZZ.out
      (first | rw [← hmo] at hzz | rw [← hma] at hzz)
      clear hW3 hb3 k3 k4 hb hmo hma
      by_cases ht : (many : Int) < q.place
      · rw [if_pos ht] at hzz
        have d1 : decide ((many : Int) < q.place) = true := decide_eq_true ht
        have HQ := Lib.hid hzz
        clear hzz ht
        go_wp2_with fail
        go_ret
        exact ⟨ret_int HQ.out.symm, HB4.out⟩
      · rw [if_neg ht] at hzz
        have d1 : decide ((many : Int) < q.place) = false := decide_eq_false ht
        have HQ := Lib.hid hzz
        clear hzz ht
        go_wp2_with fail
        go_ret
        exact ⟨ret_int HQ.out.symm, HB4.out⟩
    · have hcf : complB q outs = false := by simpa using hco
      have hcr : complR q outs = 1 := by unfold complR; rw [if_pos hv, if_neg hco]
      have HQ := Lib.hid (show z = 1 by rw [HZ.out]; unfold missedR; rw [if_pos hv, if_neg hco])
      rw [hcr, hv, show (if true = true then (.agg #[.int .i64 q.win, .int .i64 q.draw, .slice cA q.clubs.length cc, .slice pA q.points.length pc, .slice oA q.opn.length oc, .int .i64 q.club, .int .i64 q.place] : Value) else zeroRV) = .agg #[.int .i64 q.win, .int .i64 q.draw, .slice cA q.clubs.length cc, .slice pA q.points.length pc, .slice oA q.opn.length oc, .int .i64 q.club, .int .i64 q.place] from rfl]
      clear hv hco hcf hcr
      go_wp2_with fail
      go_ret
      exact ⟨ret_int HQ.out.symm, HB1.out.alloc HB1.out.size _⟩
  · have hvf : validB q = false := by simpa using hv
    have hcr : complR q outs = 280 := by unfold complR; rw [if_neg hv]
    have HQ := Lib.hid (show z = 280 by rw [HZ.out]; unfold missedR; rw [if_neg hv])
    rw [hcr, hvf, show (if false = true then (.agg #[.int .i64 q.win, .int .i64 q.draw, .slice cA q.clubs.length cc, .slice pA q.points.length pc, .slice oA q.opn.length oc, .int .i64 q.club, .int .i64 q.place] : Value) else zeroRV) = .agg #[.int .i64 0, .int .i64 0, .slice none 0 0, .slice none 0 0, .slice none 0 0, .int .i64 0, .int .i64 0] from rfl]
    clear hv hvf hcr
    go_wp2_with fail
    go_ret
    exact ⟨ret_int HQ.out.symm, HB1.out.alloc HB1.out.size _⟩
end Go.Proofs.Ythlnfjbedehjdaa
