import Derived.Test.YtolappaekjdcgaaRowI
import Derived.Test.YtolappaekjdcgaaA4
namespace Go.Proofs.Ytolappaekjdcgaa
open Go.ChangeShapes Go.WideShapes Go.ChangeAt Go.RowKit Go.Deep Go.Joins
theorem Try.cells_graph : Try.prog.cellsOf 24 = 3 := by kernel_rfl
section
variable {H : Type} {enc : TypeId × Value → H} {W : World} {base : Nat} {spare : Nat → Bool} {held : Bool}
theorem open_intC {n : Nat} {v : Value} {x : DataW H × List MemPlace} (h : DataW.trod enc Try.prog W base spare held n 3 [v] = some x) : ∃ z : Int, v = .int .i64 z := by
  obtain ⟨k, hk, -, -⟩ := DataW.trod_int Try.underlying3 h
  exact ⟨k, by simpa using hk⟩
theorem open_graph {r : Reach} {b0 : Nat} {v : Value} {d : DataW H} {p : List MemPlace} (hv : Value.okWide Try.prog W r b0 24 v) (h : DataW.Trod enc Try.prog W base spare held 24 v d p) : ∃ x : GrD, IsGraph W (NB []) v x := by
  obtain ⟨v0, v1, v2, y0, y1, y2, n, rfl, -, -, h0, h1, h2⟩ := open_agg3 Try.underlying24 (by kernel_rfl) Try.cells_graph hv h
  obtain ⟨x0, rfl⟩ := open_intC h0
  obtain ⟨x1, rfl⟩ := open_intC h1
  obtain ⟨x2, k2⟩ := open_edgeL h2
  exact ⟨⟨x0, x1, x2⟩, v2, rfl, k2⟩
end
end Go.Proofs.Ytolappaekjdcgaa
