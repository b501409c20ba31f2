/- Opening of a row's arguments: a network. -/
import Derived.Test.YtikddknhcfhnbaaRow
import Derived.Test.YtikddknhcfhnbaaA1
namespace Go.Proofs.Ytikddknhcfhnbaa
open Go.ChangeShapes Go.WideShapes Go.ChangeAt Go.RowKit Go.Deep Go.Joins
theorem u16_of {n : Int} (h : (Lit.int .u16 n).wf = true) : ∃ m : Nat, n = (m : Int) ∧ m < 65536 := by
  have hx : 0 ≤ n ∧ n ≤ 65535 := by simpa [Lit.wf, IntKind.min, IntKind.max, IntKind.signed, IntKind.bits] using h
  exact ⟨n.toNat, by omega, by omega⟩
theorem u8_of {n : Int} (h : (Lit.int .u8 n).wf = true) : ∃ m : Nat, n = (m : Int) ∧ m < 256 := by
  have hx : 0 ≤ n ∧ n ≤ 255 := by simpa [Lit.wf, IntKind.min, IntKind.max, IntKind.signed, IntKind.bits] using h
  exact ⟨n.toNat, by omega, by omega⟩
theorem Try.cells_int : Try.prog.cellsOf 3 = 1 := by kernel_rfl
theorem Try.cells_arc : Try.prog.cellsOf 45 = 3 := by kernel_rfl
theorem Try.cells_net : Try.prog.cellsOf 24 = 2 := by kernel_rfl
section
variable {H : Type} {enc : TypeId × Value → H} {W : World} {base : Nat} {spare : Nat → Bool} {held : Bool}
theorem open_intC {n : Nat} {v : Value} {x : DataW H × List MemPlace} (h : DataW.trod enc Try.prog W base spare held n 3 [v] = some x) : ∃ z : Int, v = .int .i64 z := by
  obtain ⟨k, hk, -, -⟩ := DataW.trod_int Try.underlying3 h
  exact ⟨k, by simpa using hk⟩
theorem open_arc {n' : Nat} {c0 c1 c2 : Value} {x : DataW H × List MemPlace} (h : DataW.trod enc Try.prog W base spare held n' 45 [c0, c1, c2] = some x) :
    ∃ s : ArcD, c0 = .int .i64 s.src ∧ c1 = .int .i64 s.dst ∧ c2 = .int .i64 s.cap := by
  obtain ⟨xs, n', -, hx, -, hxl, hf⟩ := DataW.trod_struct Try.underlying45 h
  have h0 : DataW.trod enc Try.prog W base spare held n' 3 (([c0, c1, c2].drop 0).take (Try.prog.cellsOf 3)) = xs[0]? := hf 0 _ rfl
  have h1 : DataW.trod enc Try.prog W base spare held n' 3 (([c0, c1, c2].drop 1).take (Try.prog.cellsOf 3)) = xs[1]? := hf 1 _ rfl
  have h2 : DataW.trod enc Try.prog W base spare held n' 3 (([c0, c1, c2].drop 2).take (Try.prog.cellsOf 3)) = xs[2]? := hf 2 _ rfl
  rw [Try.cells_int] at h0 h1 h2
  simp only [List.drop_zero, List.drop_succ_cons, List.take_succ_cons, List.take_zero] at h0 h1 h2
  match xs, hxl with
  | [x0, x1, x2], _ =>
    obtain ⟨k0, rfl⟩ := open_intC h0
    obtain ⟨k1, rfl⟩ := open_intC h1
    obtain ⟨k2, rfl⟩ := open_intC h2
    exact ⟨⟨k0, k1, k2⟩, rfl, rfl, rfl⟩
theorem open_arcL {fuel : Nat} {v : Value} {x : DataW H × List MemPlace} (h : DataW.trod enc Try.prog W base spare held fuel 22 [v] = some x) : ∃ xs : List ArcD, IsArcs W (NB []) v xs := by
  rcases open_slice Try.underlying22 h with ⟨e, rfl⟩ | ⟨a, len, cap, m, n, D, Pl, e, hb, hl, hm, hmm, rfl, hi⟩
  · obtain rfl : v = .slice none 0 0 := by simpa using e
    exact ⟨[], IsSl.nil⟩
  · obtain rfl : v = .slice (some a) len cap := by simpa using e
    have hlm : len ≤ m := by rw [hmm]; split <;> omega
    rw [Try.cells_arc] at hi
    have hex : ∀ i, ∃ y : ArcD, i < len → W.cell? (a.add (i * 3)) = some (.int .i64 y.src) ∧ W.cell? ((a.add (i * 3)).add 1) = some (.int .i64 y.dst) ∧ W.cell? ((a.add (i * 3)).add 2) = some (.int .i64 y.cap) := fun i => by
      by_cases hil : i < len
      · obtain ⟨cs', hc, ht⟩ := hi i (by omega)
        obtain ⟨_, hcl, hat⟩ := World.cells?_some hc
        obtain ⟨u0, u1, u2, rfl⟩ : ∃ u0 u1 u2, cs' = [u0, u1, u2] := by
          match cs', hcl with
          | [u0, u1, u2], _ => exact ⟨u0, u1, u2, rfl⟩
        obtain ⟨s, rfl, rfl, rfl⟩ := open_arc ht
        have e0 := hat 0 (by omega)
        have e1 := hat 1 (by omega)
        have e2 := hat 2 (by omega)
        rw [addr_add0] at e0
        exact ⟨s, fun _ => ⟨by simpa using e0, by simpa using e1, by simpa using e2⟩⟩
      · exact ⟨⟨0, 0, 0⟩, fun h => absurd h hil⟩
    let B : Nat → ArcD := fun i => (hex i).choose
    have hB : ∀ i, i < len → W.cell? (a.add (i * 3)) = some (.int .i64 (B i).src) ∧ W.cell? ((a.add (i * 3)).add 1) = some (.int .i64 (B i).dst) ∧ W.cell? ((a.add (i * 3)).add 2) = some (.int .i64 (B i).cap) := fun i => (hex i).choose_spec
    refine ⟨(List.range len).map B, ⟨some a, cap, by simp, by simpa using hl, by simpa [maxLen] using hm, fun hn => ?_⟩⟩
    simp at hn
    have h0 := (hB 0 hn).1
    rw [Nat.zero_mul, addr_add0] at h0
    obtain ⟨b, off, sp⟩ := a
    obtain rfl : sp = none := spot_none h0
    refine ⟨b, off, rfl, nb0 _, fun i j hi' hj => ?_⟩
    have hil : i < len := by simpa using hi'
    obtain ⟨h1, h2, h3⟩ := hB i hil
    have hn : nthA ((List.range len).map B) i = B i := by rw [nthA_get hi']; simp
    dsimp only
    rw [hn]
    rw [add_mk] at h1 h2 h3
    rw [add_mk] at h2 h3
    have hj' : j = 0 ∨ j = 1 ∨ j = 2 := by omega
    rcases hj' with rfl | rfl | rfl
    · rw [Nat.add_zero, h1]; rfl
    · rw [h2]; rfl
    · rw [h3]; rfl
theorem open_intL {fuel : Nat} {v : Value} {x : DataW H × List MemPlace} (h : DataW.trod enc Try.prog W base spare held fuel 25 [v] = some x) : ∃ xs : List Int, IsInts W (NB []) v xs := by
  rcases open_ints Try.underlying25 Try.underlying3 Try.cells_int h with ⟨e, rfl⟩ | ⟨a, len, cap, zs, e, hb, hl, hm, hz, rfl, hc, hw⟩
  · obtain rfl : v = .slice none 0 0 := by simpa using e
    exact ⟨[], IsSl.nil⟩
  · obtain rfl : v = .slice (some a) len cap := by simpa using e
    have hlz : len ≤ zs.length := by rw [hz]; split <;> omega
    refine ⟨zs.take len, ⟨some a, cap, by simp [Nat.min_eq_left hlz], by simp; omega, by simpa [maxLen] using hm, fun hn => ?_⟩⟩
    simp [Nat.min_eq_left hlz] at hn
    have h0 := hc 0 (by omega)
    rw [addr_add0] at h0
    obtain ⟨b, off, sp⟩ := a
    obtain rfl : sp = none := spot_none h0
    refine ⟨b, off, rfl, nb0 _, fun i j hi hj => ?_⟩
    simp [Nat.min_eq_left hlz] at hi
    obtain rfl : j = 0 := by omega
    have h1 := hc i (by omega)
    rw [add_mk] at h1
    rw [Nat.mul_one, Nat.add_zero, h1]
    have hzi : i < zs.length := by omega
    simp only [List.getD_eq_getElem?_getD, List.getElem?_take, if_pos hi, List.getElem?_eq_getElem hzi, Option.getD_some]
theorem open_net {r : Reach} {b0 : Nat} {v : Value} {d : DataW H} {p : List MemPlace} (hv : Value.okWide Try.prog W r b0 24 v) (h : DataW.Trod enc Try.prog W base spare held 24 v d p) : ∃ x : NetD, IsNet W (NB []) v x := by
  obtain ⟨v0, v1, y0, y1, n, rfl, -, -, h0, h1⟩ := open_agg2 Try.underlying24 (by kernel_rfl) Try.cells_net hv h
  obtain ⟨x0, rfl⟩ := open_intC h0
  obtain ⟨x1, k1⟩ := open_arcL h1
  exact ⟨⟨x0, x1⟩, v1, rfl, k1⟩
end
end Go.Proofs.Ytikddknhcfhnbaa
