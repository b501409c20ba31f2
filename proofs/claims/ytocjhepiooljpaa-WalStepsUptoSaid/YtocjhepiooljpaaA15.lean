/- Same of the reference, at equal logs. -/
import Derived.Test.YtocjhepiooljpaaA14
namespace Go.Proofs.Ytocjhepiooljpaa
open Go.RowKit Go.Deep Go.Shelf

set_option maxRecDepth 20000 in
set_option maxHeartbeats 1000000 in
theorem lsame_any (w : World) (M M' : Nat → Prop) (l : LogD) (v v' : Value) (hl : l.recs.length ≤ 140737488355328) (h : IsLog w M v l) (h' : IsLog w M' v' l) :
    Calls Try.prog 14 #[v, v'] w fun e w' => e = .returned (.bool true) ∧ Below w.heap.size w w' := by
  obtain ⟨rv, rfl, hr⟩ := h
  obtain ⟨rv', rfl, hr'⟩ := h'
  have CS := Lib.hid fun (W : World) (hB : Below w.heap.size w W) => sameRecs_any W M M' l.recs l.recs rv rv' hl hl (hr.below hB) (hr'.below hB)
  rw [decide_eq_true (rfl : l.recs = l.recs)] at CS
  obtain ⟨A, c, rfl, -, -, -⟩ := hr
  obtain ⟨A', c', rfl, -, -, -⟩ := hr'
  have e1 : (l.many == l.many) = true := by simp
  have e2 : (l.synced == l.synced) = true := by simp
  go_enter Try.func14, Try.ntmps14
  go_wp2_with fail
  refine nameW fun W1 hW1 => ?_
  have HB1 : Hid (Below w.heap.size w W1) := Lib.hid (by rw [hW1.out]; exact ((Below.refl _ _).alloc (Nat.le_refl _) _).alloc (by simp) _)
  clear hW1
  refine (CS.out W1 HB1.out).mono ?_
  rintro e w2 ⟨rfl, m, hw2⟩
  have HB2 := Lib.hid (show Below w.heap.size w w2 by rw [hw2]; exact below_drewN HB1.out _)
  clear hw2
  go_wp2_with fail
  go_ret
  exact ⟨rfl, HB2.out⟩
end Go.Proofs.Ytocjhepiooljpaa
