/- Opening of a row's arguments: cuts, with the lengths of their slices. -/
import Derived.Test.YthlnfjbedehjdaaR1
namespace Go.Proofs.Ythlnfjbedehjdaa
open Go.ChangeShapes Go.WideShapes Go.ChangeAt Go.RowKit Go.Deep Go.Joins
theorem Try.bytes_int : Try.prog.bytesOf 3 = 8 := by kernel_rfl
section
variable {H : Type} {enc : TypeId × Value → H} {W : World} {base : Nat} {spare : Nat → Bool} {held : Bool}
theorem open_intS {fuel : Nat} {v : Value} {x : DataW H × List MemPlace} (h : DataW.trod enc Try.prog W base spare held fuel 22 [v] = some x) :
    ∃ xs : List Int, IsInts W (NB []) v xs ∧ (Sized x.1 22 → xs.length ≤ 140737488355328) := by
  rcases open_ints Try.underlying22 Try.underlying3 Try.cells_int h with ⟨e, rfl⟩ | ⟨a, len, cap, zs, e, hb, hl, hm, hz, rfl, hc, hw⟩
  · obtain rfl : v = .slice none 0 0 := by simpa using e
    exact ⟨[], IsSl.nil, fun _ => by simp⟩
  · obtain rfl : v = .slice (some a) len cap := by simpa using e
    have hlz : len ≤ zs.length := by rw [hz]; split <;> omega
    refine ⟨zs.take len, ⟨some a, cap, by simp [Nat.min_eq_left hlz], by simp; omega, by simpa [maxLen] using hm, fun hn => ?_⟩, fun hs => ?_⟩
    · simp [Nat.min_eq_left hlz] at hn
      have h0 := hc 0 (by omega)
      rw [addr_add0] at h0
      obtain ⟨b, off, sp⟩ := a
      obtain rfl : sp = none := spot_none h0
      refine ⟨b, off, rfl, nb0 _, fun i j hi hj => ?_⟩
      simp [Nat.min_eq_left hlz] at hi
      obtain rfl : j = 0 := by omega
      have h1 := hc i (by omega)
      rw [add_mk] at h1
      rw [Nat.mul_one, Nat.add_zero, h1]
      have hzi : i < zs.length := by omega
      simp only [List.getD_eq_getElem?_getD, List.getElem?_take, if_pos hi, List.getElem?_eq_getElem hzi, Option.getD_some]
    · have := hs ((lits .i64 (zs.take len) : List (DataW H)).length * 8 + (lits .i64 (zs.drop len) : List (DataW H)).length * 8) (by
        simp only [DataW.weights, Try.underlying22, Try.bytes_int]
        rw [← Nat.add_mul]
        simp)
      simp [lits] at this
      simp
      omega
/-- the slices of a cut are no longer than memory -/
structure SmallC (c : CutD) : Prop where
  f : c.free.length ≤ 140737488355328
  u : c.clubs.length ≤ 140737488355328
  g : c.games.length ≤ 140737488355328
set_option maxRecDepth 100000 in
theorem open_cutS {r : Reach} {b0 : Nat} {v : Value} {d : DataW H} {p : List MemPlace} (hv : Value.okWide Try.prog W r b0 31 v) (h : DataW.Trod enc Try.prog W base spare held 31 v d p) :
    ∃ x : CutD, IsCut W (NB []) v x ∧ (Sized d 31 → SmallC x) := by
  obtain ⟨v0, v1, v2, y0, y1, y2, n, rfl, rfl, -, h0, h1, h2⟩ := open_agg3 Try.underlying31 (by kernel_rfl) Try.cells_cut hv h
  obtain ⟨x0, k0, s0⟩ := open_intS h0
  obtain ⟨x1, k1, s1⟩ := open_intS h1
  obtain ⟨x2, k2, s2⟩ := open_intS h2
  have hz0 : Sized (.agg [y0.1, y1.1, y2.1]) 31 → Sized y0.1 22 := fun hs q hq => hs q (by
    simp only [DataW.weights, Try.underlying31]
    exact weights_at (j := 0) rfl rfl hq)
  have hz1 : Sized (.agg [y0.1, y1.1, y2.1]) 31 → Sized y1.1 22 := fun hs q hq => hs q (by
    simp only [DataW.weights, Try.underlying31]
    exact weights_at (j := 1) rfl rfl hq)
  have hz2 : Sized (.agg [y0.1, y1.1, y2.1]) 31 → Sized y2.1 22 := fun hs q hq => hs q (by
    simp only [DataW.weights, Try.underlying31]
    exact weights_at (j := 2) rfl rfl hq)
  exact ⟨⟨x0, x1, x2⟩, ⟨v0, v1, v2, rfl, k0, k1, k2⟩, fun hs => ⟨s0 (hz0 hs), s1 (hz1 hs), s2 (hz2 hs)⟩⟩
end
end Go.Proofs.Ythlnfjbedehjdaa
