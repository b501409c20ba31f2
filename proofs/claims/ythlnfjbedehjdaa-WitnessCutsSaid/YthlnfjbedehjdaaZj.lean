import Derived.Test.YthlnfjbedehjdaaRowI
import Derived.Test.YthlnfjbedehjdaaZc
import Derived.Test.YthlnfjbedehjdaaZi
/- Opening of a row's arguments: races, cuts, bools. -/
namespace Go.Proofs.Ythlnfjbedehjdaa
open Go.ChangeShapes Go.WideShapes Go.ChangeAt Go.RowKit Go.Deep Go.Joins
theorem Try.cells_race : Try.prog.cellsOf 25 = 7 := by kernel_rfl
theorem Try.cells_cut : Try.prog.cellsOf 31 = 3 := by kernel_rfl
theorem Try.cells_ints : Try.prog.cellsOf 22 = 1 := by kernel_rfl
theorem Try.cells_edges : Try.prog.cellsOf 23 = 1 := by kernel_rfl
theorem array7 {α : Type} {cs : Array α} (h : cs.size = 7) : ∃ c0 c1 c2 c3 c4 c5 c6, cs = #[c0, c1, c2, c3, c4, c5, c6] := by
  obtain ⟨l⟩ := cs
  match l, h with
  | [c0, c1, c2, c3, c4, c5, c6], _ => exact ⟨c0, c1, c2, c3, c4, c5, c6, rfl⟩
section
variable {H : Type} {enc : TypeId × Value → H} {W : World} {base : Nat} {spare : Nat → Bool} {held : Bool}
theorem open_intC {n : Nat} {v : Value} {x : DataW H × List MemPlace} (h : DataW.trod enc Try.prog W base spare held n 3 [v] = some x) : ∃ z : Int, v = .int .i64 z := by
  obtain ⟨k, hk, -, -⟩ := DataW.trod_int Try.underlying3 h
  exact ⟨k, by simpa using hk⟩
theorem open_race7 {n : Nat} {c0 c1 c2 c3 c4 c5 c6 : Value} {x : DataW H × List MemPlace} (h : DataW.trod enc Try.prog W base spare held n 25 [c0, c1, c2, c3, c4, c5, c6] = some x) : ∃ q : RaceD, IsRace W (NB []) (.agg #[c0, c1, c2, c3, c4, c5, c6]) q := by
  obtain ⟨xs, n', -, hx, -, hxl, hf⟩ := DataW.trod_struct Try.underlying25 h
  have h0 : DataW.trod enc Try.prog W base spare held n' 3 (([c0, c1, c2, c3, c4, c5, c6].drop 0).take (Try.prog.cellsOf 3)) = xs[0]? := hf 0 _ rfl
  have h1 : DataW.trod enc Try.prog W base spare held n' 3 (([c0, c1, c2, c3, c4, c5, c6].drop 1).take (Try.prog.cellsOf 3)) = xs[1]? := hf 1 _ rfl
  have h2 : DataW.trod enc Try.prog W base spare held n' 22 (([c0, c1, c2, c3, c4, c5, c6].drop 2).take (Try.prog.cellsOf 22)) = xs[2]? := hf 2 _ rfl
  have h3 : DataW.trod enc Try.prog W base spare held n' 22 (([c0, c1, c2, c3, c4, c5, c6].drop 3).take (Try.prog.cellsOf 22)) = xs[3]? := hf 3 _ rfl
  have h4 : DataW.trod enc Try.prog W base spare held n' 23 (([c0, c1, c2, c3, c4, c5, c6].drop 4).take (Try.prog.cellsOf 23)) = xs[4]? := hf 4 _ rfl
  have h5 : DataW.trod enc Try.prog W base spare held n' 3 (([c0, c1, c2, c3, c4, c5, c6].drop 5).take (Try.prog.cellsOf 3)) = xs[5]? := hf 5 _ rfl
  have h6 : DataW.trod enc Try.prog W base spare held n' 3 (([c0, c1, c2, c3, c4, c5, c6].drop 6).take (Try.prog.cellsOf 3)) = xs[6]? := hf 6 _ rfl
  rw [Try.cells_int] at h0 h1 h5 h6
  rw [Try.cells_ints] at h2 h3
  rw [Try.cells_edges] at h4
  simp only [List.drop_zero, List.drop_succ_cons, List.take_succ_cons, List.take_zero] at h0 h1 h2 h3 h4 h5 h6
  match xs, hxl with
  | [x0, x1, x2, x3, x4, x5, x6], _ =>
    obtain ⟨k0, rfl⟩ := open_intC h0
    obtain ⟨k1, rfl⟩ := open_intC h1
    obtain ⟨l2, k2⟩ := open_intL h2
    obtain ⟨l3, k3⟩ := open_intL h3
    obtain ⟨l4, k4⟩ := open_edgeL h4
    obtain ⟨k5, rfl⟩ := open_intC h5
    obtain ⟨k6, rfl⟩ := open_intC h6
    exact ⟨⟨k0, k1, l2, l3, l4, k5, k6⟩, _, _, _, rfl, k2, k3, k4⟩
set_option maxRecDepth 100000 in
theorem open_race {r : Reach} {b0 : Nat} {v : Value} {d : DataW H} {p : List MemPlace} (hv : Value.okWide Try.prog W r b0 25 v) (h : DataW.Trod enc Try.prog W base spare held 25 v d p) : ∃ x : RaceD, IsRace W (NB []) v x := by
  obtain ⟨cs, rfl, hsz⟩ := okWide_struct Try.underlying25 hv
  obtain ⟨c0, c1, c2, c3, c4, c5, c6, rfl⟩ := array7 (hsz.trans Try.cells_race)
  obtain ⟨fuel, hf⟩ := h
  exact open_race7 (by simpa [Value.cells] using hf)
set_option maxRecDepth 100000 in
theorem open_cut {r : Reach} {b0 : Nat} {v : Value} {d : DataW H} {p : List MemPlace} (hv : Value.okWide Try.prog W r b0 31 v) (h : DataW.Trod enc Try.prog W base spare held 31 v d p) : ∃ x : CutD, IsCut W (NB []) v x := by
  obtain ⟨v0, v1, v2, y0, y1, y2, n, rfl, -, -, h0, h1, h2⟩ := open_agg3 Try.underlying31 (by kernel_rfl) Try.cells_cut hv h
  obtain ⟨x0, k0⟩ := open_intL h0
  obtain ⟨x1, k1⟩ := open_intL h1
  obtain ⟨x2, k2⟩ := open_intL h2
  exact ⟨⟨x0, x1, x2⟩, v0, v1, v2, rfl, k0, k1, k2⟩
end
end Go.Proofs.Ythlnfjbedehjdaa
/- Opening of a row's arguments: cuts, with the lengths of their slices. -/
namespace Go.Proofs.Ythlnfjbedehjdaa
open Go.ChangeShapes Go.WideShapes Go.ChangeAt Go.RowKit Go.Deep Go.Joins
theorem Try.bytes_int : Try.prog.bytesOf 3 = 8 := by kernel_rfl
section
variable {H : Type} {enc : TypeId × Value → H} {W : World} {base : Nat} {spare : Nat → Bool} {held : Bool}
theorem open_intS {fuel : Nat} {v : Value} {x : DataW H × List MemPlace} (h : DataW.trod enc Try.prog W base spare held fuel 22 [v] = some x) :
    ∃ xs : List Int, IsInts W (NB []) v xs ∧ (Sized x.1 22 → xs.length ≤ 140737488355328) := by
  rcases open_ints Try.underlying22 Try.underlying3 Try.cells_int h with ⟨e, rfl⟩ | ⟨a, len, cap, zs, e, hb, hl, hm, hz, rfl, hc, hw⟩
  · obtain rfl : v = .slice none 0 0 := by simpa using e
    exact ⟨[], IsSl.nil, fun _ => by simp⟩
  · obtain rfl : v = .slice (some a) len cap := by simpa using e
    have hlz : len ≤ zs.length := by rw [hz]; split <;> omega
    refine ⟨zs.take len, ⟨some a, cap, by simp [Nat.min_eq_left hlz], by simp; omega, by simpa [maxLen] using hm, fun hn => ?_⟩, fun hs => ?_⟩
    · simp [Nat.min_eq_left hlz] at hn
      have h0 := hc 0 (by omega)
      rw [addr_add0] at h0
      obtain ⟨b, off, sp⟩ := a
      obtain rfl : sp = none := spot_none h0
      refine ⟨b, off, rfl, nb0 _, fun i j hi hj => ?_⟩
      simp [Nat.min_eq_left hlz] at hi
      obtain rfl : j = 0 := by omega
      have h1 := hc i (by omega)
      rw [add_mk] at h1
      rw [Nat.mul_one, Nat.add_zero, h1]
      have hzi : i < zs.length := by omega
      simp only [List.getD_eq_getElem?_getD, List.getElem?_take, if_pos hi, List.getElem?_eq_getElem hzi, Option.getD_some]
    · have := hs ((lits .i64 (zs.take len) : List (DataW H)).length * 8 + (lits .i64 (zs.drop len) : List (DataW H)).length * 8) (by
        simp only [DataW.weights, Try.underlying22, Try.bytes_int]
        rw [← Nat.add_mul]
        simp)
      simp [lits] at this
      simp
      omega
/-- the slices of a cut are no longer than memory -/
structure SmallC (c : CutD) : Prop where
  f : c.free.length ≤ 140737488355328
  u : c.clubs.length ≤ 140737488355328
  g : c.games.length ≤ 140737488355328
set_option maxRecDepth 100000 in
theorem open_cutS {r : Reach} {b0 : Nat} {v : Value} {d : DataW H} {p : List MemPlace} (hv : Value.okWide Try.prog W r b0 31 v) (h : DataW.Trod enc Try.prog W base spare held 31 v d p) :
    ∃ x : CutD, IsCut W (NB []) v x ∧ (Sized d 31 → SmallC x) := by
  obtain ⟨v0, v1, v2, y0, y1, y2, n, rfl, rfl, -, h0, h1, h2⟩ := open_agg3 Try.underlying31 (by kernel_rfl) Try.cells_cut hv h
  obtain ⟨x0, k0, s0⟩ := open_intS h0
  obtain ⟨x1, k1, s1⟩ := open_intS h1
  obtain ⟨x2, k2, s2⟩ := open_intS h2
  have hz0 : Sized (.agg [y0.1, y1.1, y2.1]) 31 → Sized y0.1 22 := fun hs q hq => hs q (by
    simp only [DataW.weights, Try.underlying31]
    exact weights_at (j := 0) rfl rfl hq)
  have hz1 : Sized (.agg [y0.1, y1.1, y2.1]) 31 → Sized y1.1 22 := fun hs q hq => hs q (by
    simp only [DataW.weights, Try.underlying31]
    exact weights_at (j := 1) rfl rfl hq)
  have hz2 : Sized (.agg [y0.1, y1.1, y2.1]) 31 → Sized y2.1 22 := fun hs q hq => hs q (by
    simp only [DataW.weights, Try.underlying31]
    exact weights_at (j := 2) rfl rfl hq)
  exact ⟨⟨x0, x1, x2⟩, ⟨v0, v1, v2, rfl, k0, k1, k2⟩, fun hs => ⟨s0 (hz0 hs), s1 (hz1 hs), s2 (hz2 hs)⟩⟩
end
end Go.Proofs.Ythlnfjbedehjdaa
/- Opening of a row's arguments: verdicts, with the lengths of their slices. -/
namespace Go.Proofs.Ythlnfjbedehjdaa
open Go.ChangeShapes Go.WideShapes Go.ChangeAt Go.RowKit Go.Deep Go.Joins
theorem Try.cells_ver : Try.prog.cellsOf 35 = 4 := by kernel_rfl
theorem Try.bytes_cut : Try.prog.bytesOf 31 = 72 := by kernel_rfl
section
variable {H : Type} {enc : TypeId × Value → H} {W : World} {base : Nat} {spare : Nat → Bool} {held : Bool}
set_option maxRecDepth 100000 in
theorem open_cut3 {n : Nat} {u0 u1 u2 : Value} {x : DataW H × List MemPlace} (h : DataW.trod enc Try.prog W base spare held n 31 [u0, u1, u2] = some x) :
    ∃ c : CutD, IsInts W (NB []) u0 c.free ∧ IsInts W (NB []) u1 c.clubs ∧ IsInts W (NB []) u2 c.games ∧ (Sized x.1 31 → SmallC c) := by
  obtain ⟨xs, n', -, hx, -, hxl, hf⟩ := DataW.trod_struct Try.underlying31 h
  have h0 : DataW.trod enc Try.prog W base spare held n' 22 (([u0, u1, u2].drop 0).take (Try.prog.cellsOf 22)) = xs[0]? := hf 0 _ rfl
  have h1 : DataW.trod enc Try.prog W base spare held n' 22 (([u0, u1, u2].drop 1).take (Try.prog.cellsOf 22)) = xs[1]? := hf 1 _ rfl
  have h2 : DataW.trod enc Try.prog W base spare held n' 22 (([u0, u1, u2].drop 2).take (Try.prog.cellsOf 22)) = xs[2]? := hf 2 _ rfl
  rw [Try.cells_ints] at h0 h1 h2
  simp only [List.drop_zero, List.drop_succ_cons, List.take_succ_cons, List.take_zero] at h0 h1 h2
  match xs, hxl with
  | [x0, x1, x2], _ =>
    obtain ⟨l0, k0, s0⟩ := open_intS h0
    obtain ⟨l1, k1, s1⟩ := open_intS h1
    obtain ⟨l2, k2, s2⟩ := open_intS h2
    have hD : x.1 = .agg [x0.1, x1.1, x2.1] := by have := congrArg Prod.fst hx; simpa using this
    have hz : ∀ (j : Nat) (y : DataW H), ([x0.1, x1.1, x2.1] : List (DataW H))[j]? = some y → j < 3 → Sized x.1 31 → Sized y 22 := fun j y hj hl hs q hq => hs q (by
      rw [hD]
      simp only [DataW.weights, Try.underlying31]
      match j, hl with
      | 0, _ => exact weights_at (j := 0) rfl hj hq
      | 1, _ => exact weights_at (j := 1) rfl hj hq
      | 2, _ => exact weights_at (j := 2) rfl hj hq)
    exact ⟨⟨l0, l1, l2⟩, k0, k1, k2, fun hs => ⟨s0 (hz 0 _ rfl (by omega) hs), s1 (hz 1 _ rfl (by omega) hs), s2 (hz 2 _ rfl (by omega) hs)⟩⟩
theorem open_cuts {fuel : Nat} {v : Value} {x : DataW H × List MemPlace} (h : DataW.trod enc Try.prog W base spare held fuel 33 [v] = some x) :
    ∃ cs : List CutD, IsCuts W (NB []) v cs ∧ (Sized x.1 33 → cs.length ≤ 140737488355328 ∧ ∀ i, i < cs.length → SmallC (cutN cs i)) := by
  rcases open_slice Try.underlying33 h with ⟨e, rfl⟩ | ⟨a, len, cap, m, n, D, Pl, e, hb, hl, hm, hmm, rfl, hi⟩
  · obtain rfl : v = .slice none 0 0 := by simpa using e
    exact ⟨[], IsCuts.nil, fun _ => ⟨by simp, fun i hi => absurd hi (by simp)⟩⟩
  · obtain rfl : v = .slice (some a) len cap := by simpa using e
    have hlm : len ≤ m := by rw [hmm]; split <;> omega
    rw [Try.cells_cut] at hi
    have hex : ∀ i, ∃ (u0 u1 u2 : Value) (c : CutD), i < len → W.cell? (a.add (i * 3)) = some u0 ∧ W.cell? ((a.add (i * 3)).add 1) = some u1 ∧ W.cell? ((a.add (i * 3)).add 2) = some u2 ∧ IsInts W (NB []) u0 c.free ∧ IsInts W (NB []) u1 c.clubs ∧ IsInts W (NB []) u2 c.games ∧ (Sized (D i) 31 → SmallC c) := fun i => by
      by_cases hil : i < len
      · obtain ⟨cs', hc, ht⟩ := hi i (by omega)
        obtain ⟨_, hcl, hat⟩ := World.cells?_some hc
        obtain ⟨u0, u1, u2, rfl⟩ : ∃ u0 u1 u2, cs' = [u0, u1, u2] := by
          match cs', hcl with
          | [u0, u1, u2], _ => exact ⟨u0, u1, u2, rfl⟩
        obtain ⟨c, k0, k1, k2, ks⟩ := open_cut3 ht
        have e0 := hat 0 (by omega)
        have e1 := hat 1 (by omega)
        have e2 := hat 2 (by omega)
        rw [addr_add0] at e0
        exact ⟨u0, u1, u2, c, fun _ => ⟨by simpa using e0, by simpa using e1, by simpa using e2, k0, k1, k2, ks⟩⟩
      · exact ⟨.nilIface, .nilIface, .nilIface, ⟨[], [], []⟩, fun h => absurd h hil⟩
    let B : Nat → CutD := fun i => (hex i).choose_spec.choose_spec.choose_spec.choose
    have hUB : ∀ i, i < len → ∃ u0 u1 u2, W.cell? (a.add (i * 3)) = some u0 ∧ W.cell? ((a.add (i * 3)).add 1) = some u1 ∧ W.cell? ((a.add (i * 3)).add 2) = some u2 ∧ IsInts W (NB []) u0 (B i).free ∧ IsInts W (NB []) u1 (B i).clubs ∧ IsInts W (NB []) u2 (B i).games ∧ (Sized (D i) 31 → SmallC (B i)) := fun i hil =>
      ⟨_, _, _, (hex i).choose_spec.choose_spec.choose_spec.choose_spec hil⟩
    have hN : ∀ i, i < len → cutN ((List.range len).map B) i = B i := fun i hil => by rw [cutN_get (by simpa using hil)]; simp
    refine ⟨(List.range len).map B, ⟨some a, cap, by simp, by simpa using hl, by simpa [maxLen] using hm, fun hn => ?_⟩, fun hs => ⟨?_, fun i hi' => ?_⟩⟩
    · simp at hn
      obtain ⟨_, _, _, h0, -⟩ := hUB 0 hn
      rw [Nat.zero_mul, addr_add0] at h0
      obtain ⟨b, off, sp⟩ := a
      obtain rfl : sp = none := spot_none h0
      refine ⟨b, off, rfl, nb0 _, fun i hi' => ?_⟩
      have hil : i < len := by simpa using hi'
      rw [hN i hil]
      obtain ⟨u0, u1, u2, c0, c1, c2, k0, k1, k2, -⟩ := hUB i hil
      rw [add_mk] at c0 c1 c2
      rw [add_mk] at c1 c2
      obtain ⟨fA, fc, rfl, -⟩ := id k0
      obtain ⟨uA, uc, rfl, -⟩ := id k1
      obtain ⟨gA, gc, rfl, -⟩ := id k2
      exact ⟨fA, fc, uA, uc, gA, gc, c0, c1, c2, k0, k1, k2⟩
    · have := hs _ (by
        simp only [DataW.weights, Try.underlying33]
        exact List.mem_cons_self)
      simp at this
      simp
      rw [Try.bytes_cut] at this
      omega
    · have hil : i < len := by simpa using hi'
      rw [hN i hil]
      obtain ⟨_, _, _, -, -, -, -, -, -, ks⟩ := hUB i hil
      refine ks fun q hq => hs q ?_
      simp only [DataW.weights, Try.underlying33]
      refine List.mem_cons_of_mem _ (List.mem_append_left _ ?_)
      exact weights_all (List.mem_map.2 ⟨i, List.mem_range.2 hil, rfl⟩) hq
set_option maxRecDepth 100000 in
theorem open_ver {r : Reach} {b0 : Nat} {v : Value} {d : DataW H} {p : List MemPlace} (hv : Value.okWide Try.prog W r b0 35 v) (h : DataW.Trod enc Try.prog W base spare held 35 v d p) :
    ∃ x : VerD, IsVer W (NB []) v x ∧ (Sized d 35 → SmallV x) := by
  obtain ⟨v0, v1, v2, v3, y0, y1, y2, y3, n, rfl, rfl, -, h0, h1, h2, h3⟩ := open_agg4 Try.underlying35 (by kernel_rfl) Try.cells_ver hv h
  obtain ⟨x0, rfl⟩ := open_intC h0
  obtain ⟨x1, k1, s1⟩ := open_intS h1
  obtain ⟨x2, k2, s2⟩ := open_intS h2
  obtain ⟨x3, k3, s3⟩ := open_cuts h3
  have hz1 : Sized (.agg [y0.1, y1.1, y2.1, y3.1]) 35 → Sized y1.1 22 := fun hs q hq => hs q (by
    simp only [DataW.weights, Try.underlying35]
    exact weights_at (j := 1) rfl rfl hq)
  have hz2 : Sized (.agg [y0.1, y1.1, y2.1, y3.1]) 35 → Sized y2.1 22 := fun hs q hq => hs q (by
    simp only [DataW.weights, Try.underlying35]
    exact weights_at (j := 2) rfl rfl hq)
  have hz3 : Sized (.agg [y0.1, y1.1, y2.1, y3.1]) 35 → Sized y3.1 33 := fun hs q hq => hs q (by
    simp only [DataW.weights, Try.underlying35]
    exact weights_at (j := 3) rfl rfl hq)
  exact ⟨⟨x0, x1, x2, x3⟩, ⟨v1, v2, v3, rfl, k1, k2, k3⟩, fun hs => ⟨s1 (hz1 hs), s2 (hz2 hs), (s3 (hz3 hs)).1, fun i hi => by
    have := (s3 (hz3 hs)).2 i hi
    exact ⟨this.f, this.u, this.g⟩⟩⟩
end
end Go.Proofs.Ythlnfjbedehjdaa
