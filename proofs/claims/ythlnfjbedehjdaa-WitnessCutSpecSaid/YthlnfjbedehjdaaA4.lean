/- witness.completion. -/
import Derived.Test.YthlnfjbedehjdaaA3
namespace Go.Proofs.Ythlnfjbedehjdaa
open Go.RowKit Go.Shelf

theorem out_any (o : Int) (w : World) : Calls Try.prog 45 #[.int .i64 o] w fun e w' => e = .returned (.bool (!outB o)) ∧ Below w.heap.size w w' := by
  unfold outB
  go_enter Try.func45, Try.ntmps45
  by_cases h1 : o < 1
  · have d1 : decide (o < 1) = true := decide_eq_true h1
    have e1 : decide (1 ≤ o) = false := by rw [decide_eq_false_iff_not]; omega
    go_wp2_with fail
    go_ret
    exact ⟨by first | rfl | (rw [e1]; rfl), Below.refl _ _⟩
  · have d1 : decide (o < 1) = false := decide_eq_false h1
    have e1 : decide (1 ≤ o) = true := by rw [decide_eq_true_eq]; omega
    by_cases h2 : 3 < o
    · have d2 : decide (3 < o) = true := decide_eq_true h2
      have e2 : decide (o ≤ 3) = false := by rw [decide_eq_false_iff_not]; omega
      go_wp2_with fail
      go_ret
      exact ⟨by first | rfl | (rw [e1, e2]; rfl), Below.refl _ _⟩
    · have d2 : decide (3 < o) = false := decide_eq_false h2
      have e2 : decide (o ≤ 3) = true := by rw [decide_eq_true_eq]; omega
      go_wp2_with fail
      go_ret
      exact ⟨by first | rfl | (rw [e1, e2]; rfl), Below.refl _ _⟩
/-- what completion answers -/
def complR (q : RaceD) (outs : List Int) : Int := if validB q then (if complB q outs then 0 else 1) else 280
def RetCo (v : Value) (ok : Bool) (z : Int) (w : World) (e : Ending) (w' : World) : Prop := e = .returned (.tuple #[if ok then v else zeroRV, .int .i64 z]) ∧ Below w.heap.size w w'
set_option maxRecDepth 20000 in
set_option maxHeartbeats 4000000 in
theorem compl_any (w : World) (M M' : Nat → Prop) (v u : Value) (q : RaceD) (outs : List Int) (h : IsRace w M v q) (h' : IsInts w M' u outs) (hlen : outs.length ≤ 140737488355328) : Calls Try.prog 26 #[v, u] w (RetCo v (validB q) (complR q outs) w) := by
  obtain ⟨cA, cc, pA, pc, oA, oc, rfl, hc, hp, ho⟩ := h.parts
  obtain ⟨uA, uc, rfl, hu1, hu2, hu3⟩ := id h'
  have HR := Lib.hid h
  have HU := Lib.hid h'
  have HU3 := Lib.hid hu3
  clear hc hp ho h h' hu1 hu2 hu3
  obtain ⟨ok, hok⟩ : ∃ ok, ok = validB q := ⟨_, rfl⟩
  have HOK := Lib.hid hok
  rw [← hok]
  clear hok
  have CK := fun (W : World) (hB : Below w.heap.size w W) => Lib.hid (check_any W M _ q (HR.out.below hB))
  rw [← HOK.out] at CK
  go_enter Try.func26, Try.ntmps26
  go_wp2_with fail
  refine nameW fun W3 hW3 => ?_
  have hb3 : Below w.heap.size w W3 := by rw [hW3.out]; exact ((Below.refl _ _).alloc (Nat.le_refl _) _).alloc (by simp) _
  have k0 : W3.heap[w.heap.size]? = some (.cells #[.int .i64 q.win, .int .i64 q.draw, .slice cA q.clubs.length cc, .slice pA q.points.length pc, .slice oA q.opn.length oc, .int .i64 q.club, .int .i64 q.place] 25 (0, 0)) := by rw [hW3.out]; simp only [heap_alloc_if, World.size_alloc]; rw [if_neg (by omega), if_pos trivial]
  have k1 : W3.heap[w.heap.size + 1]? = some (.cells #[.int .i64 0, .int .i64 0, .slice none 0 0, .slice none 0 0, .slice none 0 0, .int .i64 0, .int .i64 0] 55 (0, 0)) := by rw [hW3.out]; simp only [heap_alloc_if, World.size_alloc]; rw [if_pos trivial]
  have K0 := Lib.hid k0
  have K1 := Lib.hid k1
  have HB3 := Lib.hid hb3
  clear hW3 hb3 k0 k1
  refine (CK W3 HB3.out).out.mono ?_
  rintro e W4 ⟨rfl, hb⟩
  replace K0 := Lib.hid ((hb.block _ (lt_heap K0.out)).trans K0.out)
  replace K1 := Lib.hid ((hb.block _ (lt_heap K1.out)).trans K1.out)
  replace HB3 := Lib.hid (HB3.out.trans (hb.mono HB3.out.size))
  clear hb CK
  have m0 := cell_of (j := 0) K1.out rfl
  have f0 : W4.frozen? ⟨w.heap.size + 1, 0, none⟩ = false := by simp [World.frozen?, K1.out]
  have m1 := cell_of (j := 1) K1.out rfl
  have f1 : W4.frozen? ⟨w.heap.size + 1, 1, none⟩ = false := by simp [World.frozen?, K1.out]
  have m2 := cell_of (j := 2) K1.out rfl
  have f2 : W4.frozen? ⟨w.heap.size + 1, 2, none⟩ = false := by simp [World.frozen?, K1.out]
  have m3 := cell_of (j := 3) K1.out rfl
  have f3 : W4.frozen? ⟨w.heap.size + 1, 3, none⟩ = false := by simp [World.frozen?, K1.out]
  have m4 := cell_of (j := 4) K1.out rfl
  have f4 : W4.frozen? ⟨w.heap.size + 1, 4, none⟩ = false := by simp [World.frozen?, K1.out]
  have m5 := cell_of (j := 5) K1.out rfl
  have f5 : W4.frozen? ⟨w.heap.size + 1, 5, none⟩ = false := by simp [World.frozen?, K1.out]
  have m6 := cell_of (j := 6) K1.out rfl
  have f6 : W4.frozen? ⟨w.heap.size + 1, 6, none⟩ = false := by simp [World.frozen?, K1.out]
  cases ok
  · have HZ := Lib.hid (show complR q outs = 280 by unfold complR; rw [← HOK.out]; rfl)
    rw [show (if false = true then (.agg #[.int .i64 q.win, .int .i64 q.draw, .slice cA q.clubs.length cc, .slice pA q.points.length pc, .slice oA q.opn.length oc, .int .i64 q.club, .int .i64 q.place] : Value) else zeroRV) = .agg #[.int .i64 0, .int .i64 0, .slice none 0 0, .slice none 0 0, .slice none 0 0, .int .i64 0, .int .i64 0] from rfl]
    go_upto_region 2 with fail
    refine nameC fun W5 hW5 => ?_
    have k5 : W5.heap[w.heap.size + 1]? = some (.cells #[.int .i64 0, .int .i64 0, .slice none 0 0, .slice none 0 0, .slice none 0 0, .int .i64 0, .int .i64 0] 55 (0, 0)) := by
      have := Blk_set (Blk_set (Blk_set (Blk_set (Blk_set (Blk_set (Blk_set K1.out (j := 0) (.int .i64 0)) (j := 1) (.int .i64 0)) (j := 2) (.slice none 0 0)) (j := 3) (.slice none 0 0)) (j := 4) (.slice none 0 0)) (j := 5) (.int .i64 0)) (j := 6) (.int .i64 0)
      rw [hW5.out, this]; rfl
    have k6 : W5.heap[w.heap.size]? = some (.cells #[.int .i64 q.win, .int .i64 q.draw, .slice cA q.clubs.length cc, .slice pA q.points.length pc, .slice oA q.opn.length oc, .int .i64 q.club, .int .i64 q.place] 25 (0, 0)) := by
      rw [hW5.out]
      repeat (first | rw [heap_set_if, if_neg (by omega)])
      exact K0.out
    have hb5 : Below w.heap.size w W5 := by rw [hW5.out]; repeat (first | with_reducible exact HB3.out | refine Below.setCell ?_ (by simp) _)
    have K5 := Lib.hid k5
    have K6 := Lib.hid k6
    have HB5 := Lib.hid hb5
    clear hW5 k5 k6 hb5 m0 m1 m2 m3 m4 m5 m6 f0 f1 f2 f3 f4 f5 f6 K0 K1 HB3
    have m0 := cell_of (j := 0) K5.out rfl
    have f0 : W5.frozen? ⟨w.heap.size + 1, 0, none⟩ = false := by simp [World.frozen?, K5.out]
    have m1 := cell_of (j := 1) K5.out rfl
    have f1 : W5.frozen? ⟨w.heap.size + 1, 1, none⟩ = false := by simp [World.frozen?, K5.out]
    have m2 := cell_of (j := 2) K5.out rfl
    have f2 : W5.frozen? ⟨w.heap.size + 1, 2, none⟩ = false := by simp [World.frozen?, K5.out]
    have m3 := cell_of (j := 3) K5.out rfl
    have f3 : W5.frozen? ⟨w.heap.size + 1, 3, none⟩ = false := by simp [World.frozen?, K5.out]
    have m4 := cell_of (j := 4) K5.out rfl
    have f4 : W5.frozen? ⟨w.heap.size + 1, 4, none⟩ = false := by simp [World.frozen?, K5.out]
    have m5 := cell_of (j := 5) K5.out rfl
    have f5 : W5.frozen? ⟨w.heap.size + 1, 5, none⟩ = false := by simp [World.frozen?, K5.out]
    have m6 := cell_of (j := 6) K5.out rfl
    have f6 : W5.frozen? ⟨w.heap.size + 1, 6, none⟩ = false := by simp [World.frozen?, K5.out]
    go_wp2_with fail
    refine bodyPost_ret (v := .tuple #[.agg #[.int .i64 0, .int .i64 0, .slice none 0 0, .slice none 0 0, .slice none 0 0, .int .i64 0, .int .i64 0], .int .i64 280]) (by simp [results, Try.results26, go_sem, m0, m1, m2, m3, m4, m5, m6]) rfl ⟨by rw [HZ.out]; rfl, ?_⟩
    repeat (first | with_reducible exact HB5.out | refine Below.setCell ?_ (by simp) _)
  · have HZ := Lib.hid (show complR q outs = if complB q outs then 0 else 1 by unfold complR; rw [← HOK.out]; rfl)
    rw [show (if true = true then (.agg #[.int .i64 q.win, .int .i64 q.draw, .slice cA q.clubs.length cc, .slice pA q.points.length pc, .slice oA q.opn.length oc, .int .i64 q.club, .int .i64 q.place] : Value) else zeroRV) = .agg #[.int .i64 q.win, .int .i64 q.draw, .slice cA q.clubs.length cc, .slice pA q.points.length pc, .slice oA q.opn.length oc, .int .i64 q.club, .int .i64 q.place] from rfl]
    go_upto_region 2 with fail
    refine nameC fun W5 hW5 => ?_
    have k5 : W5.heap[w.heap.size + 1]? = some (.cells #[.int .i64 q.win, .int .i64 q.draw, .slice cA q.clubs.length cc, .slice pA q.points.length pc, .slice oA q.opn.length oc, .int .i64 q.club, .int .i64 q.place] 55 (0, 0)) := by
      have := Blk_set (Blk_set (Blk_set (Blk_set (Blk_set (Blk_set (Blk_set K1.out (j := 0) (.int .i64 q.win)) (j := 1) (.int .i64 q.draw)) (j := 2) (.slice cA q.clubs.length cc)) (j := 3) (.slice pA q.points.length pc)) (j := 4) (.slice oA q.opn.length oc)) (j := 5) (.int .i64 q.club)) (j := 6) (.int .i64 q.place)
      rw [hW5.out, this]; rfl
    have k6 : W5.heap[w.heap.size]? = some (.cells #[.int .i64 q.win, .int .i64 q.draw, .slice cA q.clubs.length cc, .slice pA q.points.length pc, .slice oA q.opn.length oc, .int .i64 q.club, .int .i64 q.place] 25 (0, 0)) := by
      rw [hW5.out]
      repeat (first | rw [heap_set_if, if_neg (by omega)])
      exact K0.out
    have hb5 : Below w.heap.size w W5 := by rw [hW5.out]; repeat (first | with_reducible exact HB3.out | refine Below.setCell ?_ (by simp) _)
    have K5 := Lib.hid k5
    have K6 := Lib.hid k6
    have HB5 := Lib.hid hb5
    clear hW5 k5 k6 hb5 m0 m1 m2 m3 m4 m5 m6 f0 f1 f2 f3 f4 f5 f6 K0 K1 HB3
    have r4 := cell_of (j := 4) K6.out rfl
    obtain ⟨cb, hcb⟩ : ∃ cb, cb = complB q outs := ⟨_, rfl⟩
    rw [← hcb] at HZ
    by_cases hl : outs.length = q.opn.length
    · have hl1 : ((outs.length : Int) != (q.opn.length : Int)) = false := by rw [bne_eq_false_iff_eq]; omega
      have hcb2 : cb = outs.all outB := by rw [hcb]; unfold complB; rw [decide_eq_true hl, Bool.true_and]
      have CC := Lib.hid (containsFunc1_any W5 M' uA outs.length uc _ hlen (HU3.out.keep fun _ _ hp => HB5.out.cell hp) (fun i _ => ⟨_, rfl⟩) 45 #[] (fun i => !outB (outs.getD i 0)) (enters_of Try.func45 (by kernel_rfl) rfl) (fun i hi wr hwr => out_any (outs.getD i 0) wr))
      have hany : (List.range outs.length).any (fun i => !outB (outs.getD i 0)) = !cb := by
        rw [hcb2]
        show (List.range outs.length).any (fun i => (fun y => !outB y) (nthI outs i)) = _
        rw [range_anyI outs (fun y => !outB y), List.not_all_eq_any_not]
      rw [hany] at CC
      clear hany hcb2 hcb hl
      go_wp2_with fail
      refine CC.out.mono ?_
      rintro e W6 ⟨rfl, hb⟩
      replace K5 := Lib.hid ((hb.block _ (lt_heap K5.out)).trans K5.out)
      replace HB5 := Lib.hid (HB5.out.trans (hb.mono HB5.out.size))
      clear hb CC r4 hl1
      have m0 := cell_of (j := 0) K5.out rfl
      have f0 : W6.frozen? ⟨w.heap.size + 1, 0, none⟩ = false := by simp [World.frozen?, K5.out]
      have m1 := cell_of (j := 1) K5.out rfl
      have f1 : W6.frozen? ⟨w.heap.size + 1, 1, none⟩ = false := by simp [World.frozen?, K5.out]
      have m2 := cell_of (j := 2) K5.out rfl
      have f2 : W6.frozen? ⟨w.heap.size + 1, 2, none⟩ = false := by simp [World.frozen?, K5.out]
      have m3 := cell_of (j := 3) K5.out rfl
      have f3 : W6.frozen? ⟨w.heap.size + 1, 3, none⟩ = false := by simp [World.frozen?, K5.out]
      have m4 := cell_of (j := 4) K5.out rfl
      have f4 : W6.frozen? ⟨w.heap.size + 1, 4, none⟩ = false := by simp [World.frozen?, K5.out]
      have m5 := cell_of (j := 5) K5.out rfl
      have f5 : W6.frozen? ⟨w.heap.size + 1, 5, none⟩ = false := by simp [World.frozen?, K5.out]
      have m6 := cell_of (j := 6) K5.out rfl
      have f6 : W6.frozen? ⟨w.heap.size + 1, 6, none⟩ = false := by simp [World.frozen?, K5.out]
      cases cb
      · skip
        go_wp2_with fail
        refine bodyPost_ret (v := .tuple #[.agg #[.int .i64 q.win, .int .i64 q.draw, .slice cA q.clubs.length cc, .slice pA q.points.length pc, .slice oA q.opn.length oc, .int .i64 q.club, .int .i64 q.place], .int .i64 1]) (by simp [results, Try.results26, go_sem, m0, m1, m2, m3, m4, m5, m6]) rfl ⟨by rw [HZ.out]; rfl, ?_⟩
        repeat (first | with_reducible exact HB5.out | refine Below.setCell ?_ (by simp) _)
      · skip
        go_wp2_with fail
        refine bodyPost_ret (v := .tuple #[.agg #[.int .i64 q.win, .int .i64 q.draw, .slice cA q.clubs.length cc, .slice pA q.points.length pc, .slice oA q.opn.length oc, .int .i64 q.club, .int .i64 q.place], .int .i64 0]) (by simp [results, Try.results26, go_sem, m0, m1, m2, m3, m4, m5, m6]) rfl ⟨by rw [HZ.out]; rfl, ?_⟩
        repeat (first | with_reducible exact HB5.out | refine Below.setCell ?_ (by simp) _)
    · have hl1 : ((outs.length : Int) != (q.opn.length : Int)) = true := by rw [bne_iff_ne]; omega
      have hcb2 : cb = false := by rw [hcb]; unfold complB; rw [decide_eq_false hl, Bool.false_and]
      rw [hcb2] at HZ
      clear hcb2 hcb hl
      have m0 := cell_of (j := 0) K5.out rfl
      have f0 : W5.frozen? ⟨w.heap.size + 1, 0, none⟩ = false := by simp [World.frozen?, K5.out]
      have m1 := cell_of (j := 1) K5.out rfl
      have f1 : W5.frozen? ⟨w.heap.size + 1, 1, none⟩ = false := by simp [World.frozen?, K5.out]
      have m2 := cell_of (j := 2) K5.out rfl
      have f2 : W5.frozen? ⟨w.heap.size + 1, 2, none⟩ = false := by simp [World.frozen?, K5.out]
      have m3 := cell_of (j := 3) K5.out rfl
      have f3 : W5.frozen? ⟨w.heap.size + 1, 3, none⟩ = false := by simp [World.frozen?, K5.out]
      have m4 := cell_of (j := 4) K5.out rfl
      have f4 : W5.frozen? ⟨w.heap.size + 1, 4, none⟩ = false := by simp [World.frozen?, K5.out]
      have m5 := cell_of (j := 5) K5.out rfl
      have f5 : W5.frozen? ⟨w.heap.size + 1, 5, none⟩ = false := by simp [World.frozen?, K5.out]
      have m6 := cell_of (j := 6) K5.out rfl
      have f6 : W5.frozen? ⟨w.heap.size + 1, 6, none⟩ = false := by simp [World.frozen?, K5.out]
      go_wp2_with fail
      refine bodyPost_ret (v := .tuple #[.agg #[.int .i64 q.win, .int .i64 q.draw, .slice cA q.clubs.length cc, .slice pA q.points.length pc, .slice oA q.opn.length oc, .int .i64 q.club, .int .i64 q.place], .int .i64 1]) (by simp [results, Try.results26, go_sem, m0, m1, m2, m3, m4, m5, m6]) rfl ⟨by rw [HZ.out]; rfl, ?_⟩
      repeat (first | with_reducible exact HB5.out | refine Below.setCell ?_ (by simp) _)
end Go.Proofs.Ythlnfjbedehjdaa
