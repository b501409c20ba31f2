/- Cuts in memory; one int appended onto an own row of ints. -/
import Derived.Test.YthlnfjbedehjdaaS2
import Derived.Test.YthlnfjbedehjdaaTk
namespace Go.Proofs.Ythlnfjbedehjdaa
open Go.RowKit Go.Deep Go.Shelf
/-- a cut in memory -/
def IsCut (w : World) (M : Nat → Prop) (v : Value) (c : CutD) : Prop := ∃ fv cv gv, v = .agg #[fv, cv, gv] ∧ IsInts w M fv c.free ∧ IsInts w M cv c.clubs ∧ IsInts w M gv c.games
section
variable {w w' : World} {M M' : Nat → Prop} {v : Value} {c : CutD}
theorem IsCut.below (h : IsCut w M v c) (hb : Below w.heap.size w w') : IsCut w' M v c := by
  obtain ⟨fv, cv, gv, e, h1, h2, h3⟩ := h; exact ⟨fv, cv, gv, e, IsSl.below h1 hb, IsSl.below h2 hb, IsSl.below h3 hb⟩
theorem IsCut.mono (h : IsCut w M v c) (hM : ∀ b, b < w.heap.size → M b → M' b) : IsCut w M' v c := by
  obtain ⟨fv, cv, gv, e, h1, h2, h3⟩ := h; exact ⟨fv, cv, gv, e, IsSl.mono h1 hM (by omega), IsSl.mono h2 hM (by omega), IsSl.mono h3 hM (by omega)⟩
/-- the parts of a cut -/
theorem IsCut.parts (h : IsCut w M v c) : ∃ fA fc uA uc gA gc, v = .agg #[.slice fA c.free.length fc, .slice uA c.clubs.length uc, .slice gA c.games.length gc] ∧
    IsInts w M (.slice fA c.free.length fc) c.free ∧ IsInts w M (.slice uA c.clubs.length uc) c.clubs ∧ IsInts w M (.slice gA c.games.length gc) c.games := by
  obtain ⟨fv, cv, gv, rfl, h1, h2, h3⟩ := h
  obtain ⟨fA, fc, rfl, r1⟩ := id h1
  obtain ⟨uA, uc, rfl, r2⟩ := id h2
  obtain ⟨gA, gc, rfl, r3⟩ := id h3
  exact ⟨fA, fc, uA, uc, gA, gc, rfl, h1, h2, h3⟩
end
/-- one int lies in a block of its own -/
theorem one_ints {w : World} {b : Nat} {y : Int} {t : TypeId} (hb : w.heap[b]? = some (.cells #[.int .i64 y] t (0, 0))) : IsInts w (fun _ => True) (.slice (some ⟨b, 0, none⟩) 1 1) [y] :=
  ⟨_, _, rfl, by simp, by simp, fun _ => ⟨b, 0, rfl, trivial, fun i j hi hj => by
    simp only [List.length_singleton] at hi
    obtain rfl : i = 0 := by omega
    obtain rfl : j = 0 := by omega
    exact cell_of hb rfl⟩⟩
/-- append of one int onto an own row of ints -/
theorem wpList_int1 {ops : Array Oper} {rest : List Oper} {o : Oper} {a : Act} {w : World} {Q : Exit → Act → World → Prop} (hg : o.guard = none) (s x : Operand) (hop : o.op = .call { callee := .builtin .append, args := #[s, x], argTypes := #[22, 22] })
    (base : Nat) (l : List Int) (y : Int) {v : Value} {b : Nat} {t : TypeId} (hs : a.eval s = v) (hown : w.ownsRow base 3 1 v l.length (l.map i64v)) (hx : a.eval x = .slice (some ⟨b, 0, none⟩) 1 1) (hb : w.heap[b]? = some (.cells #[.int .i64 y] t (0, 0))) (hl : l.length < 999999) (hbase : base ≤ w.heap.size)
    (h : ∀ A d w', Hid (w'.ownsRow base 3 1 (.slice A (l ++ [y]).length d) (l ++ [y]).length ((l ++ [y]).map i64v) ∧ Below base w w' ∧ ∀ k, k < w.heap.size → v.ownBlock ≠ some k → w'.heap[k]? = w.heap[k]?) → wpList Try.prog ops Q rest (a.put o.dst (.slice A (l ++ [y]).length d)) w') : wpList Try.prog ops Q (o :: rest) a w :=
  wpList_ints hg s x hop base l [y] hs hown hx (one_ints hb) (by simp; omega) hbase h
end Go.Proofs.Ythlnfjbedehjdaa
