/- The reference's completion, Finals and Above. -/
import Derived.Test.YthlnfjbedehjdaaA15
import Derived.BigQuiet
import Derived.StillTailTactics
namespace Go.Proofs.Ythlnfjbedehjdaa
open Go.RowKit Go.Deep Go.Shelf

/-- the race's box and the row of points -/
structure AbT (t : TypeId) (w : World) (g n cap : Nat) (rv : Array Value) (p : List Int) (W : World) : Prop where
  box : W.heap[w.heap.size]? = some (.cells rv t (0, 0))
  own : W.ownsRow (w.heap.size + 1) 3 1 (.slice (some ⟨g, 0, none⟩) n cap) n (p.map i64v)
  below : Below w.heap.size w W
  lo : w.heap.size < g
  hi : g < W.heap.size
  len : p.length = n
section
variable {t : TypeId} {w W W' : World} {g n cap : Nat} {rv : Array Value} {p : List Int}
theorem AbT.next (h : AbT t w g n cap rv p W) (hb : Below W.heap.size W W') : AbT t w g n cap rv p W' :=
  ⟨(hb.block _ (lt_heap h.box)).trans h.box, own_belowA h.own hb, h.below.trans (hb.mono h.below.size), h.lo, Nat.lt_of_lt_of_le h.hi hb.size, h.len⟩
theorem AbT.cell (h : AbT t w g n cap rv p W) {i : Nat} (hi : i < n) : W.cell? ⟨g, i, none⟩ = some (.int .i64 (nthI p i)) := by
  have := h.own.cellAt i (by omega)
  rw [this, List.getElem?_map, List.getElem?_eq_getElem (by rw [h.len]; exact hi), nthI_get (by rw [h.len]; exact hi)]
  rfl
theorem AbT.store (h : AbT t w g n cap rv p W) {i : Nat} (x : Int) : AbT t w g n cap rv (p.set i x) (W.setCell ⟨g, i, none⟩ (.int .i64 x)) := by
  have hlo := h.lo
  refine ⟨by rw [heap_set_if, if_neg (by omega)]; exact h.box, ?_, h.below.setCell (by show w.heap.size ≤ g; omega) _, h.lo, by rw [size_setA]; exact h.hi, by rw [List.length_set]; exact h.len⟩
  have := (h.own.stored i (i64v x)).1
  rwa [← List.map_set] at this
end
set_option maxRecDepth 20000 in
theorem rcompl_any (w : World) (M M' : Nat → Prop) (v u : Value) (q : RaceD) (outs : List Int) (h : IsRace w M v q) (h' : IsInts w M' u outs) (hlen : outs.length ≤ 140737488355328) : Calls Try.prog 28 #[v, u] w fun e w' => e = .returned (.bool (complB q outs)) ∧ Below w.heap.size w w' := by
  obtain ⟨cA, cc, pA, pc, oA, oc, rfl, -⟩ := h.parts
  obtain ⟨uA, uc, rfl, -⟩ := id h'
  have HU := Lib.hid h'
  clear h h'
  obtain ⟨m, hm⟩ : ∃ m, m = outs.length := ⟨_, rfl⟩
  have HM := Lib.hid hm
  obtain ⟨no, hno⟩ : ∃ no, no = q.opn.length := ⟨_, rfl⟩
  have HNO := Lib.hid hno
  rw [← hm] at hlen
  rw [← hm, ← hno]
  obtain ⟨z, hz⟩ : ∃ z, z = complB q outs := ⟨_, rfl⟩
  have HZ := Lib.hid (show z = (decide (m = no) && outs.all outB) by rw [hz, hm, hno]; rfl)
  rw [← hz]
  clear hm hz hno
  go_enter Try.func28, Try.ntmps28
  go_wp2_with fail
  refine nameC fun W1 hW1 => ?_
  have hb1 : Below w.heap.size w W1 := by rw [hW1.out]; exact (Below.refl _ _).alloc (Nat.le_refl _) _
  have k0 : W1.heap[w.heap.size]? = some (.cells #[.int .i64 q.win, .int .i64 q.draw, .slice cA q.clubs.length cc, .slice pA q.points.length pc, .slice oA no oc, .int .i64 q.club, .int .i64 q.place] 25 (0, 0)) := by rw [hW1.out]; exact heap_alloc_new _ _
  have r4 := cell_of (j := 4) k0 rfl
  have HB1 := Lib.hid hb1
  clear hW1 hb1 k0
  go_loop [5] (fun i => ∃ k : Nat, k ≤ m ∧ i = .int .i64 (k : Int) ∧ Hid (upTo outB outs k)) (fun i => m - (intOf i).toNat)
  case atStart => exact ⟨0, Nat.zero_le _, rfl, Lib.hid upTo_zero⟩
  case round =>
    obtain ⟨k, hk, rfl, HT⟩ := hrel
    by_cases hlt : k < m
    · obtain ⟨ub, uo, rfl, hub, hck⟩ := HU.out.at_ HB1.out (show k < outs.length by rw [← HM.out]; exact hlt)
      have HL := Lib.hid (show k < outs.length by rw [← HM.out]; exact hlt)
      have ho : outB (outs[k]'HL.out) = (decide (1 ≤ nthI outs k) && decide (nthI outs k ≤ 3)) := by rw [nthI_get HL.out]; rfl
      obtain ⟨x, hx⟩ : ∃ x, x = nthI outs k := ⟨_, rfl⟩
      rw [← hx] at hck ho
      have HOB := Lib.hid ho
      have hk0 : (0 : Int) ≤ (k : Int) := by omega
      have hk1 : (k : Int) < (m : Int) := by omega
      clear hx ho
      by_cases t0 : x < 1
      · have d0 : decide (x < 1) = true := decide_eq_true t0
        have HQ := Lib.hid (show z = false by rw [HZ.out, not_all HL.out (by rw [HOB.out, decide_eq_false (show ¬ 1 ≤ x by omega)]; rfl), Bool.and_false])
        clear t0
        go_wp2_with fail
        go_ret
        exact ⟨ret_bool HQ.out.symm, HB1.out⟩
      · have d0 : decide (x < 1) = false := decide_eq_false t0
        by_cases t1 : 3 < x
        · have d1 : decide (3 < x) = true := decide_eq_true t1
          have HQ := Lib.hid (show z = false by rw [HZ.out, not_all HL.out (by rw [HOB.out, decide_eq_false (show ¬ x ≤ 3 by omega), Bool.and_false]), Bool.and_false])
          clear t0 t1
          go_wp2_with fail
          go_ret
          exact ⟨ret_bool HQ.out.symm, HB1.out⟩
        · have d1 : decide (3 < x) = false := decide_eq_false t1
          have HT2 := Lib.hid (upTo_succ HT.out HL.out (by rw [HOB.out, decide_eq_true (show 1 ≤ x by omega), decide_eq_true (show x ≤ 3 by omega)]; rfl))
          clear t0 t1
          go_wp2_with fail
          go_round
          case rel => exact ⟨k + 1, by omega, by go_num, HT2⟩
          case measure => simp [intOf]; omega
    · have hnl : ¬ (k : Int) < (m : Int) := by omega
      obtain rfl : k = m := by omega
      have HA := Lib.hid (show outs.all outB = true from upTo_all (by rw [← HM.out]; exact HT.out))
      by_cases e : k = no
      · have d0 : ((k : Int) == (no : Int)) = true := by rw [beq_iff_eq]; omega
        have HQ := Lib.hid (show z = true by rw [HZ.out, HA.out, decide_eq_true e]; rfl)
        clear e
        go_wp2_with fail
        go_ret
        exact ⟨ret_bool HQ.out.symm, HB1.out⟩
      · have d0 : ((k : Int) == (no : Int)) = false := by rw [beq_eq_false_iff_ne]; omega
        have HQ := Lib.hid (show z = false by rw [HZ.out, decide_eq_false e]; rfl)
        clear e
        go_wp2_with fail
        go_ret
        exact ⟨ret_bool HQ.out.symm, HB1.out⟩
set_option maxRecDepth 20000 in
set_option maxHeartbeats 4000000 in
theorem rabove_any (w : World) (M M' : Nat → Prop) (v u : Value) (q : RaceD) (p : List Int) (h : IsRace w M v q) (h' : IsInts w M' u p) (hlen : p.length ≤ 1000) (hc : 0 ≤ q.club ∧ q.club < p.length) : Calls Try.prog 22 #[v, u] w fun e w' => e = .returned (.tuple #[.int .i64 ((moreR q p : Nat) : Int), .int .i64 ((manyR q p : Nat) : Int)]) ∧ Below w.heap.size w w' := by
  obtain ⟨c, hcc⟩ : ∃ c : Nat, q.club = (c : Int) := ⟨q.club.toNat, by omega⟩
  obtain ⟨cA, cc, pA, pc, oA, oc, rfl, -⟩ := h.parts
  obtain ⟨uA, uc, rfl, -⟩ := id h'
  rw [hcc]
  have HU := Lib.hid h'
  have hcl : c < p.length := by omega
  have HM1 := Lib.hid (show moreR q p = moreTo (c : Int) p p.length by unfold moreR; rw [hcc])
  have HM2 := Lib.hid (show manyR q p = manyTo (c : Int) p p.length by unfold manyR; rw [hcc])
  rw [HM1.out, HM2.out]
  clear h h' hc hcc HM1 HM2
  obtain ⟨m, hm⟩ : ∃ m, m = p.length := ⟨_, rfl⟩
  have HM := Lib.hid hm
  rw [← hm] at hlen hcl
  rw [← hm]
  clear hm
  go_enter Try.func22, Try.ntmps22
  go_wp2_with fail
  refine nameC fun W1 hW1 => ?_
  have hb1 : Below w.heap.size w W1 := by rw [hW1.out]; exact (Below.refl _ _).alloc (Nat.le_refl _) _
  have k0 : W1.heap[w.heap.size]? = some (.cells #[.int .i64 q.win, .int .i64 q.draw, .slice cA q.clubs.length cc, .slice pA q.points.length pc, .slice oA q.opn.length oc, .int .i64 (c : Int), .int .i64 q.place] 25 (0, 0)) := by rw [hW1.out]; exact heap_alloc_new _ _
  have K0 := Lib.hid k0
  have HB1 := Lib.hid hb1
  clear hW1 hb1 k0
  go_loopw [6, 7, 8] (fun s6 s7 s8 wr => ∃ k : Nat, k ≤ m ∧ s6 = .int .i64 ((moreTo (c : Int) p k : Nat) : Int) ∧ s7 = .int .i64 ((manyTo (c : Int) p k : Nat) : Int) ∧ s8 = .int .i64 (k : Int) ∧ Hid (Below W1.heap.size W1 wr)) (fun _ _ s8 _ => m - (intOf s8).toNat)
  case atStart => exact ⟨0, Nat.zero_le _, rfl, rfl, rfl, Lib.hid (Below.refl _ _)⟩
  case round =>
    obtain ⟨k, hk, rfl, rfl, rfl, HB⟩ := hrel
    have HBW := Lib.hid (HB1.out.trans (HB.out.mono HB1.out.size))
    have k0 := (HB.out.block _ (lt_heap K0.out)).trans K0.out
    have r5 := cell_of (j := 5) k0 rfl
    have h1 := moreTo_le (c : Int) p k
    have h2 := manyTo_le (c : Int) p k
    have HS1 := Lib.hid (moreTo_succ (c : Int) p k)
    have HS2 := Lib.hid (manyTo_succ (c : Int) p k)
    obtain ⟨a, ha⟩ : ∃ a, a = moreTo (c : Int) p k := ⟨_, rfl⟩
    obtain ⟨b, hb⟩ : ∃ b, b = manyTo (c : Int) p k := ⟨_, rfl⟩
    by_cases hlt : k < m
    · rw [← ha] at h1 HS1 ⊢
      rw [← hb] at h2 HS2 ⊢
      clear ha hb
      obtain ⟨ub, uo, rfl, hub, hx⟩ := HU.out.at_ HBW.out (show k < p.length by rw [← HM.out]; exact hlt)
      obtain ⟨ub2, uo2, e, -, hy⟩ := HU.out.at_ HBW.out (show c < p.length by rw [← HM.out]; exact hcl)
      injection e with e
      injection e with e e'
      subst e e'
      obtain ⟨x, hxE⟩ : ∃ x, x = nthI p k := ⟨_, rfl⟩
      obtain ⟨y, hyE⟩ : ∃ y, y = nthI p c := ⟨_, rfl⟩
      rw [show ((c : Int)).toNat = c from rfl, ← hxE, ← hyE] at HS1 HS2
      rw [← hxE] at hx
      rw [← hyE] at hy
      have HUBL := Lib.hid hub
      have hk0 : (0 : Int) ≤ (k : Int) := by omega
      have hk1 : (k : Int) < (m : Int) := by omega
      have hc0 : (0 : Int) ≤ (c : Int) := by omega
      have hc1 : (c : Int) < (m : Int) := by omega
      clear hxE hyE k0
      by_cases t0 : k = c
      · skip
        have d0 : ((k : Int) != (c : Int)) = false := by rw [bne_eq_false_iff_eq]; omega
        have d00 : ((k : Int) == (c : Int)) = true := by rw [beq_iff_eq]; omega
        have HN1 := Lib.hid (show moreTo (c : Int) p (k + 1) = a by rw [HS1.out, if_neg (by omega), Nat.add_zero])
        have HN2 := Lib.hid (show manyTo (c : Int) p (k + 1) = b by rw [HS2.out, if_neg (by omega), Nat.add_zero])
        clear t0
        go_wp2_with fail
        go_quiet (fail)
        go_upto_region 8 with fail
        refine nameC fun W5 hW5 => ?_
        have hb5 : Below wr.heap.size wr W5 := by rw [hW5.out]; exact bDrewN (Below.refl _ _) _
        have HB5 := Lib.hid (HB.out.trans (hb5.mono HB.out.size))
        have hx' := (hb5.cell (p := ⟨ub, uo + k, none⟩) (Nat.lt_of_lt_of_le HUBL.out HBW.out.size)).trans hx
        have hy' := (hb5.cell (p := ⟨ub, uo + c, none⟩) (Nat.lt_of_lt_of_le HUBL.out HBW.out.size)).trans hy
        have r5' := (hb5.cell (p := ⟨w.heap.size, 5, none⟩) (lt_of_cell r5)).trans r5
        clear hW5 hb5 hx hy r5 HS1 HS2
        go_quiet (fail)
        go_wp2_with fail
        go_roundw
        case rel => exact ⟨k + 1, by omega, by rw [HN1.out], by rw [HN2.out], by go_num, Lib.hid (bDrewN HB5.out _)⟩
        case measure => simp [intOf]; omega
      have d0 : ((k : Int) != (c : Int)) = true := by rw [bne_iff_ne]; omega
      have d00 : ((k : Int) == (c : Int)) = false := by rw [beq_eq_false_iff_ne]; omega
      by_cases t1 : y < x
      · skip
        have d1 : decide (y < x) = true := by rw [decide_eq_true_eq]; omega
        have d2 : decide (y ≤ x) = true := by rw [decide_eq_true_eq]; omega
        have HN1 := Lib.hid (show moreTo (c : Int) p (k + 1) = a + 1 by rw [HS1.out, if_pos ⟨by omega, by omega⟩])
        have HN2 := Lib.hid (show manyTo (c : Int) p (k + 1) = b + 1 by rw [HS2.out, if_pos ⟨by omega, by omega⟩])
        clear t0 t1
        go_wp2_with fail
        go_quiet (fail)
        go_upto_region 8 with fail
        refine nameC fun W5 hW5 => ?_
        have hb5 : Below wr.heap.size wr W5 := by rw [hW5.out]; exact bDrewN (Below.refl _ _) _
        have HB5 := Lib.hid (HB.out.trans (hb5.mono HB.out.size))
        have hx' := (hb5.cell (p := ⟨ub, uo + k, none⟩) (Nat.lt_of_lt_of_le HUBL.out HBW.out.size)).trans hx
        have hy' := (hb5.cell (p := ⟨ub, uo + c, none⟩) (Nat.lt_of_lt_of_le HUBL.out HBW.out.size)).trans hy
        have r5' := (hb5.cell (p := ⟨w.heap.size, 5, none⟩) (lt_of_cell r5)).trans r5
        clear hW5 hb5 hx hy r5 HS1 HS2
        go_quiet (fail)
        go_wp2_with fail
        go_roundw
        case rel => exact ⟨k + 1, by omega, by rw [HN1.out]; go_num, by rw [HN2.out]; go_num, by go_num, Lib.hid (bDrewN HB5.out _)⟩
        case measure => simp [intOf]; omega
      by_cases t2 : y ≤ x
      · skip
        have d1 : decide (y < x) = false := by rw [decide_eq_false_iff_not]; omega
        have d2 : decide (y ≤ x) = true := by rw [decide_eq_true_eq]; omega
        have HN1 := Lib.hid (show moreTo (c : Int) p (k + 1) = a by rw [HS1.out, if_neg (by omega), Nat.add_zero])
        have HN2 := Lib.hid (show manyTo (c : Int) p (k + 1) = b + 1 by rw [HS2.out, if_pos ⟨by omega, by omega⟩])
        clear t0 t1 t2
        go_wp2_with fail
        go_quiet (fail)
        go_upto_region 8 with fail
        refine nameC fun W5 hW5 => ?_
        have hb5 : Below wr.heap.size wr W5 := by rw [hW5.out]; exact bDrewN (Below.refl _ _) _
        have HB5 := Lib.hid (HB.out.trans (hb5.mono HB.out.size))
        have hx' := (hb5.cell (p := ⟨ub, uo + k, none⟩) (Nat.lt_of_lt_of_le HUBL.out HBW.out.size)).trans hx
        have hy' := (hb5.cell (p := ⟨ub, uo + c, none⟩) (Nat.lt_of_lt_of_le HUBL.out HBW.out.size)).trans hy
        have r5' := (hb5.cell (p := ⟨w.heap.size, 5, none⟩) (lt_of_cell r5)).trans r5
        clear hW5 hb5 hx hy r5 HS1 HS2
        go_quiet (fail)
        go_wp2_with fail
        go_roundw
        case rel => exact ⟨k + 1, by omega, by rw [HN1.out], by rw [HN2.out]; go_num, by go_num, Lib.hid (bDrewN HB5.out _)⟩
        case measure => simp [intOf]; omega
      · skip
        have d1 : decide (y < x) = false := by rw [decide_eq_false_iff_not]; omega
        have d2 : decide (y ≤ x) = false := by rw [decide_eq_false_iff_not]; omega
        have HN1 := Lib.hid (show moreTo (c : Int) p (k + 1) = a by rw [HS1.out, if_neg (by omega), Nat.add_zero])
        have HN2 := Lib.hid (show manyTo (c : Int) p (k + 1) = b by rw [HS2.out, if_neg (by omega), Nat.add_zero])
        clear t0 t1 t2
        go_wp2_with fail
        go_quiet (fail)
        go_upto_region 8 with fail
        refine nameC fun W5 hW5 => ?_
        have hb5 : Below wr.heap.size wr W5 := by rw [hW5.out]; exact bDrewN (Below.refl _ _) _
        have HB5 := Lib.hid (HB.out.trans (hb5.mono HB.out.size))
        have hx' := (hb5.cell (p := ⟨ub, uo + k, none⟩) (Nat.lt_of_lt_of_le HUBL.out HBW.out.size)).trans hx
        have hy' := (hb5.cell (p := ⟨ub, uo + c, none⟩) (Nat.lt_of_lt_of_le HUBL.out HBW.out.size)).trans hy
        have r5' := (hb5.cell (p := ⟨w.heap.size, 5, none⟩) (lt_of_cell r5)).trans r5
        clear hW5 hb5 hx hy r5 HS1 HS2
        go_quiet (fail)
        go_wp2_with fail
        go_roundw
        case rel => exact ⟨k + 1, by omega, by rw [HN1.out], by rw [HN2.out], by go_num, Lib.hid (bDrewN HB5.out _)⟩
        case measure => simp [intOf]; omega
    · have hnl : ¬ (k : Int) < (m : Int) := by omega
      obtain rfl : k = m := by omega
      have HA := Lib.hid ha
      have HA2 := Lib.hid hb
      rw [← ha, ← hb]
      clear ha hb HS1 HS2 k0
      go_wp2_with fail
      go_ret2
      exact ⟨by rw [← HA.out, ← HA2.out]; rfl, HBW.out⟩
def FinW (w : World) (l : List Int) (e : Ending) (w' : World) : Prop := ∃ A c, e = .returned (.slice A l.length c) ∧ w'.ownsRow (w.heap.size + 1) 3 1 (.slice A l.length c) l.length (l.map i64v) ∧ Below w.heap.size w w'
set_option maxRecDepth 20000 in
set_option maxHeartbeats 4000000 in
theorem rfin_any (w : World) (M M' : Nat → Prop) (v u : Value) (q : RaceD) (outs : List Int) (h : IsRace w M v q) (h' : IsInts w M' u outs) (hv : ValidR q) (hco : complB q outs = true) : Calls Try.prog 29 #[v, u] w (FinW w (finR q outs)) := by
  have hl : outs.length = q.opn.length := by unfold complB at hco; simp only [Bool.and_eq_true, decide_eq_true_eq] at hco; exact hco.1
  have hall : ∀ k, k < outs.length → 1 ≤ nthI outs k ∧ nthI outs k ≤ 3 := fun k hk => by
    unfold complB at hco
    simp only [Bool.and_eq_true, List.all_eq_true] at hco
    have := hco.2 _ (List.getElem_mem hk)
    rw [← nthI_get hk] at this
    unfold outB at this
    simp only [Bool.and_eq_true, decide_eq_true_eq] at this
    exact this
  obtain ⟨cA, cc, pA, pc, oA, oc, rfl, hc, hp, ho⟩ := h.parts
  obtain ⟨uA, uc, rfl, hu1, hu2, hu3⟩ := id h'
  have HP := Lib.hid hp
  have HO := Lib.hid ho
  have HU := Lib.hid h'
  have HV := Lib.hid hv
  have HL := Lib.hid hl
  have HALL := Lib.hid hall
  have hn2 := hv.size.n2
  have hn24 := hv.size.n24
  have hpts := hv.size.pts
  have hop := hv.size.opn
  clear hc hp ho h h' hu1 hu2 hu3 hv hl hall hco
  obtain ⟨n, hn⟩ : ∃ n, n = q.clubs.length := ⟨_, rfl⟩
  obtain ⟨no, hno⟩ : ∃ no, no = q.opn.length := ⟨_, rfl⟩
  obtain ⟨np, hnp⟩ : ∃ np, np = q.points.length := ⟨_, rfl⟩
  rw [← hn] at hn2 hn24 hpts
  rw [← hno] at hop
  rw [← hnp] at hpts
  have HN := Lib.hid hn
  have HNO := Lib.hid hno
  have HNP := Lib.hid hnp
  have HPT := Lib.hid hpts
  have hnn : outs.length = no := by rw [hno, HL.out]
  rw [hnn]
  rw [← hn, ← hno, ← hnp]
  clear hn hno hnp hpts hnn
  go_enter Try.func29, Try.ntmps29
  go_upto_region 1 with fail
  refine nameC fun W1 hW1 => ?_
  have hb1 : Below w.heap.size w W1 := by rw [hW1.out]; exact (Below.refl _ _).alloc (Nat.le_refl _) _
  have k0 : W1.heap[w.heap.size]? = some (.cells #[.int .i64 q.win, .int .i64 q.draw, .slice cA n cc, .slice pA np pc, .slice oA no oc, .int .i64 q.club, .int .i64 q.place] 25 (0, 0)) := by rw [hW1.out]; exact heap_alloc_new _ _
  have hsz1 : W1.heap.size = w.heap.size + 1 := by rw [hW1.out]; simp
  have K0 := Lib.hid k0
  have HB1 := Lib.hid hb1
  have HZ1 := Lib.hid hsz1
  have r3 := cell_of (j := 3) k0 rfl
  have hq0 : w.heap.size < W1.heap.size := lt_heap k0
  clear hW1 hb1 k0 hsz1
  have HPL := Lib.hid (show IsInts W1 M (.slice pA np pc) q.points by rw [HNP.out]; exact IsSl.below HP.out HB1.out)
  go_wp2_with (at_builtin; refine wpList_ints rfl (.tmp 8) (.tmp 10) rfl (w.heap.size + 1) [] q.points (M := M) rfl (own_empty (heap_alloc_new _ _) (by rw [HZ1.out]; exact Nat.le_refl _)) rfl (IsSl.below HPL.out ((Below.refl _ _).alloc (Nat.le_refl _) _)) (by have := HPT.out; have := HNP.out; simp; omega) (by have := HZ1.out; simp; omega) ?_; intro A2 cd w2 H2; clear r3; (repeat (first | simp only [Act.put] | simp only [List.setIfInBounds_toArray] | simp only [List.set_cons_zero] | simp only [List.set_cons_succ])))
  have hl0 : (([] : List Int) ++ q.points).length = n := by rw [List.nil_append, ← HNP.out, HPT.out]
  have hown := H2.out.1
  rw [hl0, List.nil_append] at hown
  rw [hl0]
  obtain ⟨g, cap, e2, hg1, hg2, hg3, hg4⟩ := own_posA hown (by omega)
  have e3 := Value.slice.inj e2
  obtain ⟨rfl, -, rfl⟩ := e3
  have hbl : Below (w.heap.size + 1) W1 w2 := (((Below.refl _ _).alloc (by rw [HZ1.out]; exact Nat.le_refl _) _).trans H2.out.2.1)
  have HS2 := Lib.hid (show AbT 25 w g n cd #[.int .i64 q.win, .int .i64 q.draw, .slice cA n cc, .slice pA np pc, .slice oA no oc, .int .i64 q.club, .int .i64 q.place] q.points w2 from ⟨(hbl.block _ (by omega)).trans K0.out, hown, HB1.out.trans (hbl.mono (by omega)), hg1, hg4, by rw [← HNP.out, HPT.out]⟩)
  rw [HPT.out] at HS2
  clear e2 hown H2 K0 HB1 HZ1 HPL hg4 hbl
  go_loopw [6] (fun i wr => ∃ k : Nat, k ≤ no ∧ i = .int .i64 (k : Int) ∧ Hid (AbT 25 w g n cd #[.int .i64 q.win, .int .i64 q.draw, .slice cA n cc, .slice pA n pc, .slice oA no oc, .int .i64 q.club, .int .i64 q.place] (finTo q (nthI outs) k) wr)) (fun i _ => no - (intOf i).toNat)
  case atStart => exact ⟨0, Nat.zero_le _, rfl, HS2⟩
  case round =>
    clear HS2
    obtain ⟨k, hk, rfl, HS⟩ := hrel
    by_cases hlt : k < no
    · have r4 := cell_of (j := 4) HS.out.box rfl
      obtain ⟨eb, eo, rfl, heb, e0, e1⟩ := HO.out.at_ HS.out.below (show k < q.opn.length by rw [← HNO.out]; exact hlt)
      obtain ⟨ub, uo, rfl, hub, hok⟩ := HU.out.at_ HS.out.below (show k < outs.length by rw [HL.out, ← HNO.out]; exact hlt)
      have ho13 := HALL.out k (by rw [HL.out, ← HNO.out]; exact hlt)
      have hed := HV.out.edge _ (List.getElem_mem (show k < q.opn.length by rw [← HNO.out]; exact hlt))
      have hfs : finTo q (nthI outs) (k + 1) = playR q (finTo q (nthI outs) k) (nthE q.opn k) (nthI outs k) := rfl
      have hne : nthE q.opn k = q.opn[k]'(by rw [← HNO.out]; exact hlt) := by unfold nthE; rw [List.getD_eq_getElem?_getD, List.getElem?_eq_getElem, Option.getD_some]
      rw [hne] at hfs
      obtain ⟨⟨x, y⟩, hxy⟩ : ∃ e, e = q.opn[k]'(by rw [← HNO.out]; exact hlt) := ⟨_, rfl⟩
      rw [← hxy] at hed hfs e0 e1
      obtain ⟨⟨hx0, hxn⟩, ⟨hy0, hyn⟩, hxy2⟩ := hed
      dsimp only at hx0 hxn hy0 hyn hxy2 e0 e1
      obtain ⟨i, rfl⟩ : ∃ i : Nat, x = (i : Int) := ⟨x.toNat, by omega⟩
      obtain ⟨j, rfl⟩ : ∃ j : Nat, y = (j : Int) := ⟨y.toNat, by omega⟩
      rw [← HN.out] at hxn hyn
      obtain ⟨o, hoo⟩ : ∃ o, o = nthI outs k := ⟨_, rfl⟩
      rw [← hoo] at hok hfs ho13
      obtain ⟨p, hpp⟩ : ∃ p, p = finTo q (nthI outs) k := ⟨_, rfl⟩
      have hin := finTo_in HV.out (nthI outs) k
      rw [← hpp] at HS hfs hin
      have HFS := Lib.hid hfs
      have hk0 : (0 : Int) ≤ (k : Int) := by omega
      have hk1 : (k : Int) < (no : Int) := by omega
      clear hfs hne hxy hoo hpp hx0 hy0 hlt
      go_upto_region 6 with fail
      refine nameC fun W5 hW5 => ?_
      have hb5 : Below wr.heap.size wr W5 := by rw [hW5.out]; exact (Below.refl _ _).alloc (Nat.le_refl _) _
      have k8 : W5.heap[wr.heap.size]? = some (.cells #[.int .i64 (i : Int), .int .i64 (j : Int)] 53 (0, 0)) := by rw [hW5.out]; exact heap_alloc_new _ _
      obtain ⟨b8, hb8⟩ : ∃ b8, b8 = wr.heap.size := ⟨_, rfl⟩
      have hg8 : g < b8 := by rw [hb8]; exact HS.out.hi
      rw [← hb8] at k8 ⊢
      have HS5 := Lib.hid (HS.out.next hb5)
      have hok5 := (hb5.cell (p := ⟨ub, uo + k, none⟩) (Nat.lt_of_lt_of_le hub HS.out.below.size)).trans hok
      have K8 := Lib.hid k8
      clear hW5 hb5 k8 hb8 HS hok e0 e1 r4
      have hi0 : (0 : Int) ≤ (i : Int) := by omega
      have hj0 : (0 : Int) ≤ (j : Int) := by omega
      have hpi := hin i
      have hpj := hin j
      have hw1 := HV.out.size.d0
      have hw2 := HV.out.size.dw
      have hw3 := HV.out.size.w9
      have HIN := Lib.hid hin
      clear hin
      obtain ⟨ho1', ho3'⟩ := ho13
      by_cases ho : o = 1
      · have d1 : (o == 1) = true := by simpa using ho
        have HO1 := Lib.hid ho
        clear ho
        have g0 := cell_of (j := 0) K8.out rfl
        have g1 := cell_of (j := 1) K8.out rfl
        have r0 := cell_of (j := 0) HS5.out.box rfl
        have r1 := cell_of (j := 1) HS5.out.box rfl
        have pi := HS5.out.cell (i := i) (by omega)
        have pj := HS5.out.cell (i := j) (by omega)
        have f1 := HS5.out.own.frozenAt i
        have f2 := HS5.out.own.frozenAt j
        go_upto_region 8 with fail
        go_still_tail 12, (by kernel_rfl)
        change wpList _ _ _ _ _ W5.drew
        refine nameG (w := W5.drew) fun W6 hW6 => ?_
        have HS6 := Lib.hid (HS5.out.next (W' := W6) (by rw [hW6.out]; exact Below.drew (Below.refl _ _)))
        have K6 := Lib.hid (show W6.heap[b8]? = some (.cells #[.int .i64 (i : Int), .int .i64 (j : Int)] 53 (0, 0)) by rw [hW6.out]; exact K8.out)
        clear hW6 HS5 K8 g0 g1 r0 r1 pi pj f1 f2
        have pi := HS6.out.cell (i := i) (by omega)
        have f1 := HS6.out.own.frozenAt i
        go_wp2_with fail
        go_roundw
        case rel => exact ⟨k + 1, by omega, by go_num, Lib.hid (by
          rw [HFS.out, show playR q p ((i : Int), (j : Int)) o = p.set i (nthI p i + q.win) from by unfold playR addP; rw [if_pos HO1.out]; rfl]
          exact HS6.out.store _)⟩
        case measure => simp [intOf]; omega
      have d1 : (o == 1) = false := by simpa using ho
      clear ho
      by_cases ho : o = 3
      · have d2 : (o == 2) = false := by rw [beq_eq_false_iff_ne]; omega
        have d3 : (o == 3) = true := by simpa using ho
        have HO1 := Lib.hid ho
        clear ho
        have g0 := cell_of (j := 0) K8.out rfl
        have g1 := cell_of (j := 1) K8.out rfl
        have r0 := cell_of (j := 0) HS5.out.box rfl
        have r1 := cell_of (j := 1) HS5.out.box rfl
        have pi := HS5.out.cell (i := i) (by omega)
        have pj := HS5.out.cell (i := j) (by omega)
        have f1 := HS5.out.own.frozenAt i
        have f2 := HS5.out.own.frozenAt j
        go_upto_region 13 with fail
        go_still_tail 12, (by kernel_rfl)
        change wpList _ _ _ _ _ W5.drew
        refine nameG (w := W5.drew) fun W6 hW6 => ?_
        have HS6 := Lib.hid (HS5.out.next (W' := W6) (by rw [hW6.out]; exact Below.drew (Below.refl _ _)))
        have K6 := Lib.hid (show W6.heap[b8]? = some (.cells #[.int .i64 (i : Int), .int .i64 (j : Int)] 53 (0, 0)) by rw [hW6.out]; exact K8.out)
        clear hW6 HS5 K8 g0 g1 r0 r1 pi pj f1 f2
        have pi := HS6.out.cell (i := j) (by omega)
        have f1 := HS6.out.own.frozenAt j
        go_wp2_with fail
        go_roundw
        case rel => exact ⟨k + 1, by omega, by go_num, Lib.hid (by
          rw [HFS.out, show playR q p ((i : Int), (j : Int)) o = p.set j (nthI p j + q.win) from by unfold playR addP; rw [if_neg (by have := HO1.out; omega), if_pos HO1.out]; rfl]
          exact HS6.out.store _)⟩
        case measure => simp [intOf]; omega
      have d2 : (o == 2) = true := by rw [beq_iff_eq]; rw [beq_eq_false_iff_ne] at d1; omega
      have HO1 := Lib.hid (show ¬ o = 1 by rw [beq_eq_false_iff_ne] at d1; exact d1)
      have HO3 := Lib.hid ho
      clear ho
      have hij : i ≠ j := by omega
      have g0 := cell_of (j := 0) K8.out rfl
      have g1 := cell_of (j := 1) K8.out rfl
      have r0 := cell_of (j := 0) HS5.out.box rfl
      have r1 := cell_of (j := 1) HS5.out.box rfl
      have pi := HS5.out.cell (i := i) (by omega)
      have pj := HS5.out.cell (i := j) (by omega)
      have f1 := HS5.out.own.frozenAt i
      have f2 := HS5.out.own.frozenAt j
      go_upto_region 10 with fail
      go_still_tail 12, (by kernel_rfl)
      change wpList _ _ _ _ _ W5.drew
      refine nameG (w := W5.drew) fun W6 hW6 => ?_
      have HS6 := Lib.hid (HS5.out.next (W' := W6) (by rw [hW6.out]; exact Below.drew (Below.refl _ _)))
      have K6 := Lib.hid (show W6.heap[b8]? = some (.cells #[.int .i64 (i : Int), .int .i64 (j : Int)] 53 (0, 0)) by rw [hW6.out]; exact K8.out)
      clear hW6 HS5 K8 g0 g1 r0 r1 pi pj f1 f2
      have pi := HS6.out.cell (i := i) (by omega)
      have f1 := HS6.out.own.frozenAt i
      go_upto_region 11 with fail
      refine nameC fun W7 hW7 => ?_
      have HS7 := Lib.hid (show AbT 25 w g n cd #[.int .i64 q.win, .int .i64 q.draw, .slice cA n cc, .slice pA n pc, .slice (some ⟨eb, eo, none⟩) no oc, .int .i64 q.club, .int .i64 q.place] (p.set i (nthI p i + q.draw)) W7 by rw [hW7.out]; exact HS6.out.store _)
      have K7 := Lib.hid (show W7.heap[b8]? = some (.cells #[.int .i64 (i : Int), .int .i64 (j : Int)] 53 (0, 0)) by rw [hW7.out, heap_set_if, if_neg (by omega)]; exact K6.out)
      clear hW7 HS6 K6 pi f1
      have hnj : nthI (p.set i (nthI p i + q.draw)) j = nthI p j := by rw [nthI_set, if_neg (by omega)]
      have g0 := cell_of (j := 0) K7.out rfl
      have g1 := cell_of (j := 1) K7.out rfl
      have r0 := cell_of (j := 0) HS7.out.box rfl
      have r1 := cell_of (j := 1) HS7.out.box rfl
      have pi := HS7.out.cell (i := i) (by omega)
      have pj := HS7.out.cell (i := j) (by omega)
      have f1 := HS7.out.own.frozenAt i
      have f2 := HS7.out.own.frozenAt j
      rw [hnj] at pj
      go_still_tail 12, (by kernel_rfl)
      change wpList _ _ _ _ _ W7.drew
      refine nameG (w := W7.drew) fun W8 hW6 => ?_
      have HS6 := Lib.hid (HS7.out.next (W' := W8) (by rw [hW6.out]; exact Below.drew (Below.refl _ _)))
      have K6 := Lib.hid (show W8.heap[b8]? = some (.cells #[.int .i64 (i : Int), .int .i64 (j : Int)] 53 (0, 0)) by rw [hW6.out]; exact K7.out)
      clear hW6 HS7 K7 g0 g1 r0 r1 pi pj f1 f2
      have pi := HS6.out.cell (i := j) (by omega)
      have f1 := HS6.out.own.frozenAt j
      have HNJ := Lib.hid hnj
      clear hnj
      go_wp2_with fail
      go_roundw
      case rel => exact ⟨k + 1, by omega, by go_num, Lib.hid (by
        rw [HFS.out, show playR q p ((i : Int), (j : Int)) o = (p.set i (nthI p i + q.draw)).set j (nthI p j + q.draw) from by
          unfold playR addP; rw [if_neg HO1.out, if_neg HO3.out]
          show (p.set i (nthI p i + q.draw)).set j (nthI (p.set i (nthI p i + q.draw)) j + q.draw) = _
          rw [HNJ.out]]
        exact HS6.out.store _)⟩
      case measure => simp [intOf]; omega
    · have hnl : ¬ (k : Int) < (no : Int) := by omega
      obtain rfl : k = no := by omega
      have r4 := cell_of (j := 4) HS.out.box rfl
      obtain ⟨p, hpp⟩ : ∃ p, p = finR q outs := ⟨_, rfl⟩
      rw [show finTo q (nthI outs) k = p from by rw [hpp, HNO.out]; rfl] at HS
      have HPP := Lib.hid hpp
      clear hpp
      have hln := HS.out.len
      have HLN := Lib.hid hln
      clear hln
      go_wp2_with fail
      go_ret
      exact ⟨some ⟨g, 0, none⟩, cd, by rw [← HPP.out, HLN.out]; rfl, by rw [← HPP.out, HLN.out]; exact HS.out.own, HS.out.below⟩
end Go.Proofs.Ythlnfjbedehjdaa
