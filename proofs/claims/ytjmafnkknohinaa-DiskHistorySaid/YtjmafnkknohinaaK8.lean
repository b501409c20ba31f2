import Derived.Test.YtjmafnkknohinaaK7
import Derived.Test.YtjmafnkknohinaaR1
namespace Go.Proofs.Ytjmafnkknohinaa
open Go.ChangeShapes Go.WideShapes Go.ChangeAt Go.RowKit Go.Deep Go.Joins

theorem law8 (w : World) (d : DiskD) (v : Value) (h : IsDisk w (NB []) v d) (hL : Lens d) (ac : List ActD) (u : Value) (ha : IsActs w (NB []) u ac) : Calls Try.prog 8 #[v, u] w fun e w' => e = .returned (.bool true) ∧ Below w.heap.size w w' := by
  by_cases hx0 : ac.length ≤ 20
  · by_cases hp : d.pending.length ≤ 0
    · by_cases hs : 0 < d.sectors.length
      · by_cases ho : okB d = true
        · by_cases hst : d.stopped = true
          · exact law8_r5 w d v h hL ac u ha hx0 hp hs ho hst
          · exact law8_go w d v h hL ac u ha (runsB_iff.2 ⟨ho, by simpa using hst⟩) (List.eq_nil_of_length_eq_zero (by omega)) hx0
        · exact law8_r4 w d v h hL ac u ha hx0 hp hs (by simpa using ho)
      · exact law8_r3 w d v h hL ac u ha hx0 hp (by omega)
    · exact law8_r2 w d v h hL ac u ha hx0 (by omega)
  · exact law8_r1 w d v h hL ac u ha (by omega)

theorem Try.cells46 : Try.prog.cellsOf 46 = 3 := by kernel_rfl
theorem Try.cells4 : Try.prog.cellsOf 4 = 1 := by kernel_rfl
theorem u8_of {n : Int} (h : (Lit.int .u8 n).wf = true) : ∃ x : UInt8, Value.int .u8 n = byt x := ⟨UInt8.ofNat n.toNat, (byt_of h).symm⟩
section
variable {H : Type} {enc : TypeId × Value → H} {W : World} {base : Nat} {spare : Nat → Bool} {held : Bool}
theorem open_acts {fuel : Nat} {v : Value} {x : DataW H × List MemPlace} (h : DataW.trod enc Try.prog W base spare held fuel 43 [v] = some x) : ∃ ac : List ActD, IsActs W (NB []) v ac := by
  rcases open_slice Try.underlying43 h with ⟨e, rfl⟩ | ⟨a, len, cap, m, n, D, Pl, e, hb, hl, hm, hmm, rfl, hi⟩
  · obtain rfl : v = .slice none 0 0 := by simpa using e
    exact ⟨[], none, 0, rfl, Nat.le_refl _, by omega, fun h => absurd h (by simp)⟩
  · obtain rfl : v = .slice (some a) len cap := by simpa using e
    have hlm : len ≤ m := by rw [hmm]; split <;> omega
    rw [Try.cells46] at hi
    have hex : ∀ i, ∃ y : ActD, i < len → ∀ j, j < 3 → W.cell? ((a.add (i * 3)).add j) = some (actCell y j) := fun i => by
      by_cases hil : i < len
      · obtain ⟨cs', hc, ht⟩ := hi i (by omega)
        obtain ⟨_, hcl, hat⟩ := World.cells?_some hc
        obtain ⟨u0, u1, u2, rfl⟩ : ∃ u0 u1 u2, cs' = [u0, u1, u2] := by
          match cs', hcl with
          | [u0, u1, u2], _ => exact ⟨u0, u1, u2, rfl⟩
        obtain ⟨xs, n', -, hx, -, hxl, hf⟩ := DataW.trod_struct Try.underlying46 ht
        have h0 : DataW.trod enc Try.prog W base spare held n' 4 (([u0, u1, u2].drop 0).take (Try.prog.cellsOf 4)) = xs[0]? := hf 0 _ rfl
        have h1 : DataW.trod enc Try.prog W base spare held n' 5 (([u0, u1, u2].drop 1).take (Try.prog.cellsOf 5)) = xs[1]? := hf 1 _ rfl
        have h2 : DataW.trod enc Try.prog W base spare held n' 5 (([u0, u1, u2].drop 2).take (Try.prog.cellsOf 5)) = xs[2]? := hf 2 _ rfl
        rw [Try.cells4] at h0
        rw [Try.cells5] at h1 h2
        simp only [List.drop_zero, List.drop_succ_cons, List.take_succ_cons, List.take_zero] at h0 h1 h2
        match xs, hxl with
        | [x0, x1, x2], _ =>
          obtain ⟨b, hb0, -⟩ := DataW.trod_bool Try.underlying4 h0
          obtain rfl : u0 = .bool b := by simpa using hb0
          obtain ⟨k1, hk1, -, hw1⟩ := DataW.trod_int Try.underlying5 h1
          obtain rfl : u1 = .int .u8 k1 := by simpa using hk1
          obtain ⟨k2, hk2, -, hw2⟩ := DataW.trod_int Try.underlying5 h2
          obtain rfl : u2 = .int .u8 k2 := by simpa using hk2
          obtain ⟨p, hp⟩ := u8_of hw1
          obtain ⟨q, hq⟩ := u8_of hw2
          refine ⟨⟨b, p, q⟩, fun _ j hj => ?_⟩
          have hj' : j = 0 ∨ j = 1 ∨ j = 2 := by omega
          rcases hj' with rfl | rfl | rfl
          · exact hat 0 (by omega)
          · exact (hat 1 (by omega)).trans (congrArg some hp)
          · exact (hat 2 (by omega)).trans (congrArg some hq)
      · exact ⟨a0, fun h => absurd h hil⟩
    let B : Nat → ActD := fun i => (hex i).choose
    have hB : ∀ i, i < len → ∀ j, j < 3 → W.cell? ((a.add (i * 3)).add j) = some (actCell (B i) j) := fun i => (hex i).choose_spec
    refine ⟨(List.range len).map B, some a, cap, by simp, by simpa using hl, by simpa [maxLen] using hm, fun hn => ?_⟩
    simp at hn
    have h0 := hB 0 hn 0 (by omega)
    rw [Nat.zero_mul, addr_add0, addr_add0] at h0
    obtain ⟨b, off, sp⟩ := a
    obtain rfl : sp = none := spot_none h0
    refine ⟨b, off, rfl, nb0 _, fun i j hi' hj => ?_⟩
    simp at hi'
    have h1 := hB i hi' j hj
    rw [add_mk, add_mk] at h1
    rw [h1]
    simp [List.getD_eq_getElem?_getD, hi']
end
end Go.Proofs.Ytjmafnkknohinaa
