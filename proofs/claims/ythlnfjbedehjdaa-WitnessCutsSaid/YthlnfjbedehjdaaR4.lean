/- Opening of a row's arguments: bytes. -/
import Derived.Test.YthlnfjbedehjdaaZj
import Derived.Test.YthlnfjbedehjdaaA18
namespace Go.Proofs.Ythlnfjbedehjdaa
open Go.ChangeShapes Go.WideShapes Go.ChangeAt Go.RowKit Go.Deep Go.Joins
theorem Try.cells_u8 : Try.prog.cellsOf 5 = 1 := by kernel_rfl
theorem u8_nat {z : Int} (h : (Lit.int .u8 z).wf = true) : ∃ m : Nat, z = (m : Int) ∧ m < 256 := by
  have hx : 0 ≤ z ∧ z ≤ 255 := by simpa [Lit.wf, IntKind.min, IntKind.max, IntKind.signed, IntKind.bits] using h
  exact ⟨z.toNat, by omega, by omega⟩
section
variable {H : Type} {enc : TypeId × Value → H} {W : World} {base : Nat} {spare : Nat → Bool} {held : Bool}
theorem open_b8 {fuel : Nat} {v : Value} {x : DataW H × List MemPlace} (h : DataW.trod enc Try.prog W base spare held fuel 41 [v] = some x) :
    ∃ bs : List Nat, IsB8 W (NB []) v bs ∧ ∀ b ∈ bs, b < 256 := by
  rcases open_ints Try.underlying41 Try.underlying5 Try.cells_u8 h with ⟨e, rfl⟩ | ⟨a, len, cap, zs, e, hb, hl, hm, hz, rfl, hc, hw⟩
  · obtain rfl : v = .slice none 0 0 := by simpa using e
    exact ⟨[], IsSl.nil, fun x hx => absurd hx (by simp)⟩
  · obtain rfl : v = .slice (some a) len cap := by simpa using e
    have hlz : len ≤ zs.length := by rw [hz]; split <;> omega
    refine ⟨(zs.take len).map Int.toNat, ⟨some a, cap, by simp [Nat.min_eq_left hlz], by simp; omega, by simpa [maxLen] using hm, fun hn => ?_⟩, fun x hx => ?_⟩
    · simp [Nat.min_eq_left hlz] at hn
      have h0 := hc 0 (by omega)
      rw [addr_add0] at h0
      obtain ⟨b, off, sp⟩ := a
      obtain rfl : sp = none := spot_none h0
      refine ⟨b, off, rfl, nb0 _, fun i j hi hj => ?_⟩
      simp [Nat.min_eq_left hlz] at hi
      obtain rfl : j = 0 := by omega
      have h1 := hc i (by omega)
      rw [add_mk] at h1
      rw [Nat.mul_one, Nat.add_zero, h1]
      have hzi : i < zs.length := by omega
      simp only [List.getD_eq_getElem?_getD, List.getElem?_map, List.getElem?_take, if_pos hi, List.getElem?_eq_getElem hzi, Option.map_some, Option.getD_some]
      obtain ⟨m, hm1, hm2⟩ := u8_nat (hw _ (List.getElem_mem hzi))
      rw [hm1]
      rfl
    · rw [List.mem_map] at hx
      obtain ⟨n, hn, rfl⟩ := hx
      obtain ⟨m, hm1, hm2⟩ := u8_nat (hw n (List.mem_of_mem_take hn))
      rw [hm1]
      exact hm2
end
end Go.Proofs.Ythlnfjbedehjdaa
