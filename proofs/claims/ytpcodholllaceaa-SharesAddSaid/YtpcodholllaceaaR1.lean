import Derived.Test.YtpcodholllaceaaF1
import Derived.Test.YtpcodholllaceaaRow
namespace Go.Proofs.Ytpcodholllaceaa
open Go.ChangeShapes Go.WideShapes Go.ChangeAt Go.RowKit Go.Deep Go.Joins

theorem Try.cells_u64 : Try.prog.cellsOf 22 = 1 := by kernel_rfl
theorem Try.cells_sh : Try.prog.cellsOf 36 = 2 := by kernel_rfl
theorem Try.bytes_u64 : Try.prog.bytesOf 22 = 8 := by kernel_rfl
theorem Try.bytes_sh : Try.prog.bytesOf 36 = 16 := by kernel_rfl
section
variable {H : Type} {enc : TypeId × Value → H} {W : World} {base : Nat} {spare : Nat → Bool} {held : Bool}
theorem open_u64s {fuel : Nat} {v : Value} {x : DataW H × List MemPlace} (h : DataW.trod enc Try.prog W base spare held fuel 23 [v] = some x) :
    ∃ xs : List Nat, IsU64 W (NB []) v xs ∧ U64s xs ∧ (Sized x.1 23 → xs.length ≤ 17592186044416) := by
  rcases open_ints Try.underlying23 Try.underlying22 Try.cells_u64 h with ⟨e, rfl⟩ | ⟨a, len, cap, zs, e, hb, hl, hm, hz, rfl, hc, hw⟩
  · obtain rfl : v = .slice none 0 0 := by simpa using e
    exact ⟨[], IsSl.nil, fun x hx => absurd hx (by simp), fun _ => by simp⟩
  · obtain rfl : v = .slice (some a) len cap := by simpa using e
    have hlz : len ≤ zs.length := by rw [hz]; split <;> omega
    refine ⟨(zs.take len).map Int.toNat, ⟨some a, cap, by simp [Nat.min_eq_left hlz], by simp; omega, by simpa [maxLen] using hm, fun hn => ?_⟩, fun x hx => ?_, fun hs => ?_⟩
    · simp [Nat.min_eq_left hlz] at hn
      have h0 := hc 0 (by omega)
      rw [addr_add0] at h0
      obtain ⟨b, off, sp⟩ := a
      obtain rfl : sp = none := spot_none h0
      refine ⟨b, off, rfl, nb0 _, fun i j hi hj => ?_⟩
      simp [Nat.min_eq_left hlz] at hi
      obtain rfl : j = 0 := by omega
      have h1 := hc i (by omega)
      rw [add_mk] at h1
      rw [Nat.mul_one, Nat.add_zero, h1]
      have hzi : i < zs.length := by omega
      simp only [List.getD_eq_getElem?_getD, List.getElem?_map, List.getElem?_take, if_pos hi, List.getElem?_eq_getElem hzi, Option.map_some, Option.getD_some]
      obtain ⟨m, hm1, hm2⟩ := u64_of (hw _ (List.getElem_mem hzi))
      rw [hm1]
      rfl
    · rw [List.mem_map] at hx
      obtain ⟨n, hn, rfl⟩ := hx
      obtain ⟨m, hm1, hm2⟩ := u64_of (hw n (List.mem_of_mem_take hn))
      rw [hm1]
      exact hm2
    · have := hs ((lits .u64 (zs.take len) : List (DataW H)).length * 8 + (lits .u64 (zs.drop len) : List (DataW H)).length * 8) (by
        simp only [DataW.weights, Try.underlying23, Try.bytes_u64]
        rw [← Nat.add_mul]
        simp)
      simp [lits] at this
      simp
      omega
theorem open_u64c {n' : Nat} {c0 : Value} {x : DataW H × List MemPlace} (h : DataW.trod enc Try.prog W base spare held n' 22 [c0] = some x) : ∃ m : Nat, c0 = .int .u64 (m : Int) := by
  obtain ⟨k0, hk0, -, hw0⟩ := DataW.trod_int Try.underlying22 h
  obtain ⟨m0, e0, -⟩ := u64_of hw0
  exact ⟨m0, by rw [← e0]; simpa using hk0⟩
theorem open_share {n' : Nat} {c0 c1 : Value} {x : DataW H × List MemPlace} (h : DataW.trod enc Try.prog W base spare held n' 36 [c0, c1] = some x) :
    ∃ s : Nat × Nat, c0 = .int .u64 (s.1 : Int) ∧ c1 = .int .u64 (s.2 : Int) ∧ s.1 < 18446744073709551616 ∧ s.2 < 18446744073709551616 := by
  obtain ⟨xs, n', -, hx, -, hxl, hf⟩ := DataW.trod_struct Try.underlying36 h
  have h0 : DataW.trod enc Try.prog W base spare held n' 22 (([c0, c1].drop 0).take (Try.prog.cellsOf 22)) = xs[0]? := hf 0 _ rfl
  have h1 : DataW.trod enc Try.prog W base spare held n' 22 (([c0, c1].drop 1).take (Try.prog.cellsOf 22)) = xs[1]? := hf 1 _ rfl
  rw [Try.cells_u64] at h0 h1
  simp only [List.drop_zero, List.drop_succ_cons, List.take_succ_cons, List.take_zero] at h0 h1
  match xs, hxl with
  | [x0, x1], _ =>
    obtain ⟨k0, hk0, -, hw0⟩ := DataW.trod_int Try.underlying22 h0
    obtain ⟨k1, hk1, -, hw1⟩ := DataW.trod_int Try.underlying22 h1
    obtain ⟨m0, e0, l0⟩ := u64_of hw0
    obtain ⟨m1, e1, l1⟩ := u64_of hw1
    exact ⟨(m0, m1), by rw [← e0]; simpa using hk0, by rw [← e1]; simpa using hk1, l0, l1⟩
theorem open_shs {fuel : Nat} {v : Value} {x : DataW H × List MemPlace} (h : DataW.trod enc Try.prog W base spare held fuel 28 [v] = some x) :
    ∃ xs : List (Nat × Nat), IsShs W (NB []) v xs ∧ (Sized x.1 28 → xs.length ≤ 8796093022208) := by
  rcases open_slice Try.underlying28 h with ⟨e, rfl⟩ | ⟨a, len, cap, m, n, D, Pl, e, hb, hl, hm, hmm, rfl, hi⟩
  · obtain rfl : v = .slice none 0 0 := by simpa using e
    exact ⟨[], IsSl.nil, fun _ => by simp⟩
  · obtain rfl : v = .slice (some a) len cap := by simpa using e
    have hlm : len ≤ m := by rw [hmm]; split <;> omega
    rw [Try.cells_sh] at hi
    have hex : ∀ i, ∃ y : Nat × Nat, i < len → W.cell? (a.add (i * 2)) = some (.int .u64 (y.1 : Int)) ∧ W.cell? ((a.add (i * 2)).add 1) = some (.int .u64 (y.2 : Int)) := fun i => by
      by_cases hil : i < len
      · obtain ⟨cs', hc, ht⟩ := hi i (by omega)
        obtain ⟨_, hcl, hat⟩ := World.cells?_some hc
        obtain ⟨u0, u, rfl⟩ : ∃ u0 u, cs' = [u0, u] := by
          match cs', hcl with
          | [u0, u], _ => exact ⟨u0, u, rfl⟩
        obtain ⟨s, rfl, rfl, -, -⟩ := open_share ht
        have e0 := hat 0 (by omega)
        have e1 := hat 1 (by omega)
        rw [addr_add0] at e0
        exact ⟨s, fun _ => ⟨by simpa using e0, by simpa using e1⟩⟩
      · exact ⟨(0, 0), fun h => absurd h hil⟩
    let B : Nat → Nat × Nat := fun i => (hex i).choose
    have hB : ∀ i, i < len → W.cell? (a.add (i * 2)) = some (.int .u64 ((B i).1 : Int)) ∧ W.cell? ((a.add (i * 2)).add 1) = some (.int .u64 ((B i).2 : Int)) := fun i => (hex i).choose_spec
    refine ⟨(List.range len).map B, ⟨some a, cap, by simp, by simpa using hl, by simpa [maxLen] using hm, fun hn => ?_⟩, fun hs => ?_⟩
    · simp at hn
      have h0 := (hB 0 hn).1
      rw [Nat.zero_mul, addr_add0] at h0
      obtain ⟨b, off, sp⟩ := a
      obtain rfl : sp = none := spot_none h0
      refine ⟨b, off, rfl, nb0 _, fun i j hi' hj => ?_⟩
      simp at hi'
      obtain ⟨h1, h2⟩ := hB i hi'
      rw [add_mk] at h1 h2
      rw [add_mk] at h2
      have hj' : j = 0 ∨ j = 1 := by omega
      rcases hj' with rfl | rfl
      · rw [Nat.add_zero, h1]; simp [List.getD_eq_getElem?_getD, hi']; rfl
      · rw [h2]; simp [List.getD_eq_getElem?_getD, hi']; rfl
    · have := hs (((List.range len).map D).length * 16 + ((List.range (m - len)).map fun j => D (len + j)).length * 16) (by
        simp only [DataW.weights, Try.underlying28, Try.bytes_sh]
        rw [← Nat.add_mul]
        simp)
      simp at this
      simp
      omega
end
end Go.Proofs.Ytpcodholllaceaa
