/- Opening of a row's arguments: races, cuts, bools. -/
import Derived.Test.YthlnfjbedehjdaaRowI
import Derived.Test.YthlnfjbedehjdaaA11
namespace Go.Proofs.Ythlnfjbedehjdaa
open Go.ChangeShapes Go.WideShapes Go.ChangeAt Go.RowKit Go.Deep Go.Joins
theorem Try.cells_race : Try.prog.cellsOf 25 = 7 := by kernel_rfl
theorem Try.cells_cut : Try.prog.cellsOf 31 = 3 := by kernel_rfl
theorem Try.cells_ints : Try.prog.cellsOf 22 = 1 := by kernel_rfl
theorem Try.cells_edges : Try.prog.cellsOf 23 = 1 := by kernel_rfl
theorem array7 {α : Type} {cs : Array α} (h : cs.size = 7) : ∃ c0 c1 c2 c3 c4 c5 c6, cs = #[c0, c1, c2, c3, c4, c5, c6] := by
  obtain ⟨l⟩ := cs
  match l, h with
  | [c0, c1, c2, c3, c4, c5, c6], _ => exact ⟨c0, c1, c2, c3, c4, c5, c6, rfl⟩
section
variable {H : Type} {enc : TypeId × Value → H} {W : World} {base : Nat} {spare : Nat → Bool} {held : Bool}
theorem open_intC {n : Nat} {v : Value} {x : DataW H × List MemPlace} (h : DataW.trod enc Try.prog W base spare held n 3 [v] = some x) : ∃ z : Int, v = .int .i64 z := by
  obtain ⟨k, hk, -, -⟩ := DataW.trod_int Try.underlying3 h
  exact ⟨k, by simpa using hk⟩
theorem open_race7 {n : Nat} {c0 c1 c2 c3 c4 c5 c6 : Value} {x : DataW H × List MemPlace} (h : DataW.trod enc Try.prog W base spare held n 25 [c0, c1, c2, c3, c4, c5, c6] = some x) : ∃ q : RaceD, IsRace W (NB []) (.agg #[c0, c1, c2, c3, c4, c5, c6]) q := by
  obtain ⟨xs, n', -, hx, -, hxl, hf⟩ := DataW.trod_struct Try.underlying25 h
  have h0 : DataW.trod enc Try.prog W base spare held n' 3 (([c0, c1, c2, c3, c4, c5, c6].drop 0).take (Try.prog.cellsOf 3)) = xs[0]? := hf 0 _ rfl
  have h1 : DataW.trod enc Try.prog W base spare held n' 3 (([c0, c1, c2, c3, c4, c5, c6].drop 1).take (Try.prog.cellsOf 3)) = xs[1]? := hf 1 _ rfl
  have h2 : DataW.trod enc Try.prog W base spare held n' 22 (([c0, c1, c2, c3, c4, c5, c6].drop 2).take (Try.prog.cellsOf 22)) = xs[2]? := hf 2 _ rfl
  have h3 : DataW.trod enc Try.prog W base spare held n' 22 (([c0, c1, c2, c3, c4, c5, c6].drop 3).take (Try.prog.cellsOf 22)) = xs[3]? := hf 3 _ rfl
  have h4 : DataW.trod enc Try.prog W base spare held n' 23 (([c0, c1, c2, c3, c4, c5, c6].drop 4).take (Try.prog.cellsOf 23)) = xs[4]? := hf 4 _ rfl
  have h5 : DataW.trod enc Try.prog W base spare held n' 3 (([c0, c1, c2, c3, c4, c5, c6].drop 5).take (Try.prog.cellsOf 3)) = xs[5]? := hf 5 _ rfl
  have h6 : DataW.trod enc Try.prog W base spare held n' 3 (([c0, c1, c2, c3, c4, c5, c6].drop 6).take (Try.prog.cellsOf 3)) = xs[6]? := hf 6 _ rfl
  rw [Try.cells_int] at h0 h1 h5 h6
  rw [Try.cells_ints] at h2 h3
  rw [Try.cells_edges] at h4
  simp only [List.drop_zero, List.drop_succ_cons, List.take_succ_cons, List.take_zero] at h0 h1 h2 h3 h4 h5 h6
  match xs, hxl with
  | [x0, x1, x2, x3, x4, x5, x6], _ =>
    obtain ⟨k0, rfl⟩ := open_intC h0
    obtain ⟨k1, rfl⟩ := open_intC h1
    obtain ⟨l2, k2⟩ := open_intL h2
    obtain ⟨l3, k3⟩ := open_intL h3
    obtain ⟨l4, k4⟩ := open_edgeL h4
    obtain ⟨k5, rfl⟩ := open_intC h5
    obtain ⟨k6, rfl⟩ := open_intC h6
    exact ⟨⟨k0, k1, l2, l3, l4, k5, k6⟩, _, _, _, rfl, k2, k3, k4⟩
set_option maxRecDepth 100000 in
theorem open_race {r : Reach} {b0 : Nat} {v : Value} {d : DataW H} {p : List MemPlace} (hv : Value.okWide Try.prog W r b0 25 v) (h : DataW.Trod enc Try.prog W base spare held 25 v d p) : ∃ x : RaceD, IsRace W (NB []) v x := by
  obtain ⟨cs, rfl, hsz⟩ := okWide_struct Try.underlying25 hv
  obtain ⟨c0, c1, c2, c3, c4, c5, c6, rfl⟩ := array7 (hsz.trans Try.cells_race)
  obtain ⟨fuel, hf⟩ := h
  exact open_race7 (by simpa [Value.cells] using hf)
set_option maxRecDepth 100000 in
theorem open_cut {r : Reach} {b0 : Nat} {v : Value} {d : DataW H} {p : List MemPlace} (hv : Value.okWide Try.prog W r b0 31 v) (h : DataW.Trod enc Try.prog W base spare held 31 v d p) : ∃ x : CutD, IsCut W (NB []) v x := by
  obtain ⟨v0, v1, v2, y0, y1, y2, n, rfl, -, -, h0, h1, h2⟩ := open_agg3 Try.underlying31 (by kernel_rfl) Try.cells_cut hv h
  obtain ⟨x0, k0⟩ := open_intL h0
  obtain ⟨x1, k1⟩ := open_intL h1
  obtain ⟨x2, k2⟩ := open_intL h2
  exact ⟨⟨x0, x1, x2⟩, v0, v1, v2, rfl, k0, k1, k2⟩
end
end Go.Proofs.Ythlnfjbedehjdaa
