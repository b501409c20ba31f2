import Derived.Test.YtbkgkgigcohbpaaRowI
import Derived.Test.YtbkgkgigcohbpaaC2
namespace Go.Proofs.Ytbkgkgigcohbpaa
open Go.ChangeShapes Go.WideShapes Go.ChangeAt Go.RowKit Go.Deep Go.Joins
theorem Try.cells_draw : Try.prog.cellsOf 25 = 3 := by kernel_rfl
section
variable {H : Type} {enc : TypeId × Value → H} {W : World} {base : Nat} {spare : Nat → Bool} {held : Bool}
theorem open_draw {r : Reach} {b0 : Nat} {v : Value} {d : DataW H} {p : List MemPlace} (hv : Value.okWide Try.prog W r b0 25 v) (h : DataW.Trod enc Try.prog W base spare held 25 v d p) : ∃ x : DrawD, IsDraw W (NB []) v x := by
  obtain ⟨v0, v1, v2, y0, y1, y2, n, rfl, -, -, h0, h1, h2⟩ := open_agg3 Try.underlying25 (by kernel_rfl) Try.cells_draw hv h
  obtain ⟨x0, k0⟩ := open_intL h0
  obtain ⟨x1, k1⟩ := open_intL h1
  obtain ⟨x2, k2⟩ := open_edgeL h2
  exact ⟨⟨x0, x1, x2⟩, v0, v1, v2, rfl, k0, k1, k2⟩
end
end Go.Proofs.Ytbkgkgigcohbpaa
