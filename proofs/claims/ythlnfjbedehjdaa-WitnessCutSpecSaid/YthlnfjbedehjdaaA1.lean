/- Races in memory. -/
import Derived.Test.YthlnfjbedehjdaaI1
import Derived.Deep.DeepCutAuto
import Derived.Deep.CutBlock
import Derived.WalkMore
import Derived.Deep.LoopGhost
import Derived.Laws.EntriesVeiled
namespace Go.Proofs.Ythlnfjbedehjdaa
open Go.RowKit Go.Shelf

/-- a race in memory -/
def IsRace (w : World) (M : Nat → Prop) (v : Value) (q : RaceD) : Prop := ∃ cv pv ov, v = .agg #[.int .i64 q.win, .int .i64 q.draw, cv, pv, ov, .int .i64 q.club, .int .i64 q.place] ∧ IsInts w M cv q.clubs ∧ IsInts w M pv q.points ∧ IsEdges w M ov q.opn
section
variable {w w' : World} {M M' : Nat → Prop} {v : Value} {q : RaceD}
theorem IsRace.below (h : IsRace w M v q) (hb : Below w.heap.size w w') : IsRace w' M v q := by
  obtain ⟨cv, pv, ov, e, h1, h2, h3⟩ := h; exact ⟨cv, pv, ov, e, IsSl.below h1 hb, IsSl.below h2 hb, IsSl.below h3 hb⟩
theorem IsRace.mono (h : IsRace w M v q) (hM : ∀ b, b < w.heap.size → M b → M' b) : IsRace w M' v q := by
  obtain ⟨cv, pv, ov, e, h1, h2, h3⟩ := h; exact ⟨cv, pv, ov, e, IsSl.mono h1 hM (by omega), IsSl.mono h2 hM (by omega), IsSl.mono h3 hM (by omega)⟩
/-- the parts of a race -/
theorem IsRace.parts (h : IsRace w M v q) : ∃ cA cc pA pc oA oc, v = .agg #[.int .i64 q.win, .int .i64 q.draw, .slice cA q.clubs.length cc, .slice pA q.points.length pc, .slice oA q.opn.length oc, .int .i64 q.club, .int .i64 q.place] ∧
    IsInts w M (.slice cA q.clubs.length cc) q.clubs ∧ IsInts w M (.slice pA q.points.length pc) q.points ∧ IsEdges w M (.slice oA q.opn.length oc) q.opn := by
  obtain ⟨cv, pv, ov, rfl, h1, h2, h3⟩ := h
  obtain ⟨cA, cc, rfl, r1⟩ := id h1
  obtain ⟨pA, pc, rfl, r2⟩ := id h2
  obtain ⟨oA, oc, rfl, r3⟩ := id h3
  exact ⟨cA, cc, pA, pc, oA, oc, rfl, h1, h2, h3⟩
end
theorem Blk_set {w : World} {g j : Nat} {t : TypeId} {cs : Array Value} (h : w.heap[g]? = some (.cells cs t (0, 0))) (u : Value) : (w.setCell ⟨g, j, none⟩ u).heap[g]? = some (.cells (cs.setIfInBounds j u) t (0, 0)) := by
  simp [World.setCell, Array.getElem?_modify, h]
def RetE (z : Int) (w : World) (e : Ending) (w' : World) : Prop := e = .returned (.int .i64 z) ∧ Below w.heap.size w w'
end Go.Proofs.Ythlnfjbedehjdaa
