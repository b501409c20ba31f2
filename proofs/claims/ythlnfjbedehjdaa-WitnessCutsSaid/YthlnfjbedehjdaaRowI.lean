/- Opening of a row's arguments: ints and pairs of ints. For any seat with []int and []api.Edge. -/
import Derived.Test.YthlnfjbedehjdaaRow
import Derived.Test.YthlnfjbedehjdaaInts
namespace Go.Proofs.Ythlnfjbedehjdaa
open Go.ChangeShapes Go.WideShapes Go.ChangeAt Go.RowKit Go.Deep Go.Joins
theorem Try.cells_int : Try.prog.cellsOf 3 = 1 := by kernel_rfl
theorem Try.cells_edge : Try.prog.cellsOf 53 = 2 := by kernel_rfl
section
variable {H : Type} {enc : TypeId × Value → H} {W : World} {base : Nat} {spare : Nat → Bool} {held : Bool}
theorem open_intL {fuel : Nat} {v : Value} {x : DataW H × List MemPlace} (h : DataW.trod enc Try.prog W base spare held fuel 22 [v] = some x) : ∃ xs : List Int, IsInts W (NB []) v xs := by
  rcases open_ints Try.underlying22 Try.underlying3 Try.cells_int h with ⟨e, rfl⟩ | ⟨a, len, cap, zs, e, hb, hl, hm, hz, rfl, hc, hw⟩
  · obtain rfl : v = .slice none 0 0 := by simpa using e
    exact ⟨[], IsSl.nil⟩
  · obtain rfl : v = .slice (some a) len cap := by simpa using e
    have hlz : len ≤ zs.length := by rw [hz]; split <;> omega
    refine ⟨zs.take len, ⟨some a, cap, by simp [Nat.min_eq_left hlz], by simp; omega, by simpa [maxLen] using hm, fun hn => ?_⟩⟩
    simp [Nat.min_eq_left hlz] at hn
    have h0 := hc 0 (by omega)
    rw [addr_add0] at h0
    obtain ⟨b, off, sp⟩ := a
    obtain rfl : sp = none := spot_none h0
    refine ⟨b, off, rfl, nb0 _, fun i j hi hj => ?_⟩
    simp [Nat.min_eq_left hlz] at hi
    obtain rfl : j = 0 := by omega
    have h1 := hc i (by omega)
    rw [add_mk] at h1
    rw [Nat.mul_one, Nat.add_zero, h1]
    have hzi : i < zs.length := by omega
    simp only [List.getD_eq_getElem?_getD, List.getElem?_take, if_pos hi, List.getElem?_eq_getElem hzi, Option.getD_some]
theorem open_edge {n' : Nat} {c0 c1 : Value} {x : DataW H × List MemPlace} (h : DataW.trod enc Try.prog W base spare held n' 53 [c0, c1] = some x) :
    ∃ s : Int × Int, c0 = .int .i64 s.1 ∧ c1 = .int .i64 s.2 := by
  obtain ⟨xs, n', -, hx, -, hxl, hf⟩ := DataW.trod_struct Try.underlying53 h
  have h0 : DataW.trod enc Try.prog W base spare held n' 3 (([c0, c1].drop 0).take (Try.prog.cellsOf 3)) = xs[0]? := hf 0 _ rfl
  have h1 : DataW.trod enc Try.prog W base spare held n' 3 (([c0, c1].drop 1).take (Try.prog.cellsOf 3)) = xs[1]? := hf 1 _ rfl
  rw [Try.cells_int] at h0 h1
  simp only [List.drop_zero, List.drop_succ_cons, List.take_succ_cons, List.take_zero] at h0 h1
  match xs, hxl with
  | [x0, x1], _ =>
    obtain ⟨k0, hk0, -, -⟩ := DataW.trod_int Try.underlying3 h0
    obtain ⟨k1, hk1, -, -⟩ := DataW.trod_int Try.underlying3 h1
    exact ⟨(k0, k1), by simpa using hk0, by simpa using hk1⟩
theorem open_edgeL {fuel : Nat} {v : Value} {x : DataW H × List MemPlace} (h : DataW.trod enc Try.prog W base spare held fuel 23 [v] = some x) : ∃ xs : List (Int × Int), IsEdges W (NB []) v xs := by
  rcases open_slice Try.underlying23 h with ⟨e, rfl⟩ | ⟨a, len, cap, m, n, D, Pl, e, hb, hl, hm, hmm, rfl, hi⟩
  · obtain rfl : v = .slice none 0 0 := by simpa using e
    exact ⟨[], IsSl.nil⟩
  · obtain rfl : v = .slice (some a) len cap := by simpa using e
    have hlm : len ≤ m := by rw [hmm]; split <;> omega
    rw [Try.cells_edge] at hi
    have hex : ∀ i, ∃ y : Int × Int, i < len → W.cell? (a.add (i * 2)) = some (.int .i64 y.1) ∧ W.cell? ((a.add (i * 2)).add 1) = some (.int .i64 y.2) := fun i => by
      by_cases hil : i < len
      · obtain ⟨cs', hc, ht⟩ := hi i (by omega)
        obtain ⟨_, hcl, hat⟩ := World.cells?_some hc
        obtain ⟨u0, u, rfl⟩ : ∃ u0 u, cs' = [u0, u] := by
          match cs', hcl with
          | [u0, u], _ => exact ⟨u0, u, rfl⟩
        obtain ⟨s, rfl, rfl⟩ := open_edge ht
        have e0 := hat 0 (by omega)
        have e1 := hat 1 (by omega)
        rw [addr_add0] at e0
        exact ⟨s, fun _ => ⟨by simpa using e0, by simpa using e1⟩⟩
      · exact ⟨(0, 0), fun h => absurd h hil⟩
    let B : Nat → Int × Int := fun i => (hex i).choose
    have hB : ∀ i, i < len → W.cell? (a.add (i * 2)) = some (.int .i64 (B i).1) ∧ W.cell? ((a.add (i * 2)).add 1) = some (.int .i64 (B i).2) := fun i => (hex i).choose_spec
    refine ⟨(List.range len).map B, ⟨some a, cap, by simp, by simpa using hl, by simpa [maxLen] using hm, fun hn => ?_⟩⟩
    simp at hn
    have h0 := (hB 0 hn).1
    rw [Nat.zero_mul, addr_add0] at h0
    obtain ⟨b, off, sp⟩ := a
    obtain rfl : sp = none := spot_none h0
    refine ⟨b, off, rfl, nb0 _, fun i j hi' hj => ?_⟩
    simp at hi'
    obtain ⟨h1, h2⟩ := hB i hi'
    rw [add_mk] at h1 h2
    rw [add_mk] at h2
    have hj' : j = 0 ∨ j = 1 := by omega
    rcases hj' with rfl | rfl
    · rw [Nat.add_zero, h1]; simp [List.getD_eq_getElem?_getD, hi']; rfl
    · rw [h2]; simp [List.getD_eq_getElem?_getD, hi']; rfl
end
end Go.Proofs.Ythlnfjbedehjdaa
