/- Opening of a row's arguments: draws, slices of bools. -/
import Derived.Test.YtgaanndidcdbpaaZN
import Derived.Test.YtgaanndidcdbpaaW5
namespace Go.Proofs.Ytgaanndidcdbpaa
open Go.ChangeShapes Go.WideShapes Go.ChangeAt Go.RowKit Go.Deep Go.Joins
theorem Try.cells_edge : Try.prog.cellsOf 143 = 2 := by kernel_rfl
theorem Try.cells_drw : Try.prog.cellsOf 73 = 3 := by kernel_rfl
theorem Try.cells_boo : Try.prog.cellsOf 4 = 1 := by kernel_rfl
theorem Try.cells_edges : Try.prog.cellsOf 71 = 1 := by kernel_rfl
theorem three_of {cs : List Value} (h : cs.length = 3) : ∃ c d e, cs = [c, d, e] := by
  match cs, h with
  | [c, d, e], _ => exact ⟨c, d, e, rfl⟩
section
variable {H : Type} {enc : TypeId × Value → H} {W : World} {base : Nat} {spare : Nat → Bool} {held : Bool}
theorem open_booc {n' : Nat} {c0 : Value} {x : DataW H × List MemPlace} (h : DataW.trod enc Try.prog W base spare held n' 4 [c0] = some x) : ∃ m : Bool, c0 = .bool m := by
  obtain ⟨b, hb, -⟩ := DataW.trod_bool Try.underlying4 h
  exact ⟨b, by simpa using hb⟩
theorem open_boos {fuel : Nat} {v : Value} {x : DataW H × List MemPlace} (h : DataW.trod enc Try.prog W base spare held fuel 74 [v] = some x) : ∃ xs : List Bool, IsBools W (NB []) v xs := by
  obtain ⟨l, h1, -⟩ := open_sl (T := Bool) false Try.underlying74 1 Try.cells_boo (by decide) (fun s _ => .bool s) (fun _ _ => True) (fun hl ht => by
    obtain ⟨c, rfl⟩ := one_of hl
    obtain ⟨z, rfl⟩ := open_booc ht
    exact ⟨z, fun j hj => by obtain rfl : j = 0 := by omega
                             rfl, trivial⟩) h
  exact ⟨l, h1⟩
theorem open_edg2 {n' : Nat} {c0 c1 : Value} {x : DataW H × List MemPlace} (h : DataW.trod enc Try.prog W base spare held n' 143 [c0, c1] = some x) :
    ∃ r : Int × Int, c0 = .int .i64 r.1 ∧ c1 = .int .i64 r.2 := by
  obtain ⟨xs, n', -, hx, -, hxl, hf⟩ := DataW.trod_struct Try.underlying143 h
  have h0 : DataW.trod enc Try.prog W base spare held n' 3 (([c0, c1].drop 0).take (Try.prog.cellsOf 3)) = xs[0]? := hf 0 _ rfl
  have h1 : DataW.trod enc Try.prog W base spare held n' 3 (([c0, c1].drop 1).take (Try.prog.cellsOf 3)) = xs[1]? := hf 1 _ rfl
  rw [Try.cells_int] at h0 h1
  simp only [List.drop_zero, List.drop_succ_cons, List.take_succ_cons, List.take_zero] at h0 h1
  match xs, hxl with
  | [x0, x1], _ =>
    obtain ⟨z, rfl, -⟩ := open_intc h0
    obtain ⟨m, rfl, -⟩ := open_intc h1
    exact ⟨⟨z, m⟩, rfl, rfl⟩
theorem open_edgs {fuel : Nat} {v : Value} {x : DataW H × List MemPlace} (h : DataW.trod enc Try.prog W base spare held fuel 71 [v] = some x) : ∃ xs : List (Int × Int), IsEdges W (NB []) v xs := by
  obtain ⟨l, h1, -⟩ := open_sl (T := Int × Int) (0, 0) Try.underlying71 2 Try.cells_edge (by decide) edc (fun _ _ => True) (fun hl ht => by
    obtain ⟨c, d, rfl⟩ := two_of hl
    obtain ⟨z, rfl, rfl⟩ := open_edg2 ht
    refine ⟨z, fun j hj => ?_, trivial⟩
    rcases (by omega : j = 0 ∨ j = 1) with rfl | rfl <;> rfl) h
  exact ⟨l, h1⟩
theorem open_drw3 {n' : Nat} {c0 c1 c2 : Value} {x : DataW H × List MemPlace} (h : DataW.trod enc Try.prog W base spare held n' 73 [c0, c1, c2] = some x) : ∃ d : Dw.DrawD, Dw.IsDraw W (NB []) (.agg #[c0, c1, c2]) d := by
  obtain ⟨xs, n', -, hx, -, hxl, hf⟩ := DataW.trod_struct Try.underlying73 h
  have h0 : DataW.trod enc Try.prog W base spare held n' 22 (([c0, c1, c2].drop 0).take (Try.prog.cellsOf 22)) = xs[0]? := hf 0 _ rfl
  have h1 : DataW.trod enc Try.prog W base spare held n' 22 (([c0, c1, c2].drop 1).take (Try.prog.cellsOf 22)) = xs[1]? := hf 1 _ rfl
  have h2 : DataW.trod enc Try.prog W base spare held n' 71 (([c0, c1, c2].drop 2).take (Try.prog.cellsOf 71)) = xs[2]? := hf 2 _ rfl
  rw [Try.cells_ints] at h0 h1
  rw [Try.cells_edges] at h2
  simp only [List.drop_zero, List.drop_succ_cons, List.take_succ_cons, List.take_zero] at h0 h1 h2
  match xs, hxl with
  | [x0, x1, x2], _ =>
    obtain ⟨l0, k0, -⟩ := open_intL h0
    obtain ⟨l1, k1, -⟩ := open_intL h1
    obtain ⟨l2, k2⟩ := open_edgs h2
    exact ⟨⟨l0, l1, l2⟩, c0, c1, c2, rfl, k0, k1, k2⟩
set_option maxRecDepth 100000 in
theorem open_drw {r : Reach} {b0 : Nat} {v : Value} {d : DataW H} {p : List MemPlace} (hv : Value.okWide Try.prog W r b0 73 v) (h : DataW.Trod enc Try.prog W base spare held 73 v d p) : ∃ x : Dw.DrawD, Dw.IsDraw W (NB []) v x := by
  obtain ⟨cs, rfl, hsz⟩ := okWide_struct Try.underlying73 hv
  obtain ⟨l⟩ := cs
  obtain ⟨c0, c1, c2, rfl⟩ := three_of (show l.length = 3 from hsz.trans Try.cells_drw)
  obtain ⟨fuel, hf⟩ := h
  exact open_drw3 (by simpa [Value.cells] using hf)
end
end Go.Proofs.Ytgaanndidcdbpaa
