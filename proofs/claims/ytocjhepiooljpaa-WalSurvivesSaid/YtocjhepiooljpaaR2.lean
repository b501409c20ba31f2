/- The script of WalSurvives in memory, and how its row opens. -/
import Derived.Test.YtocjhepiooljpaaR1
namespace Go.Proofs.Ytocjhepiooljpaa
open Go.ChangeShapes Go.WideShapes Go.ChangeAt Go.RowKit Go.Deep Go.Joins

theorem u8_of {n : Int} (h : (Lit.int .u8 n).wf = true) : ∃ m : Nat, n = (m : Int) ∧ m < 256 := by
  have hx : 0 ≤ n ∧ n ≤ 255 := by simpa [Lit.wf, IntKind.min, IntKind.max, IntKind.signed, IntKind.bits] using h
  exact ⟨n.toNat, by omega, by omega⟩
/-- a writing of records during which the disk may stop -/
structure CrD where
  recs : List (List UInt8)
  stop : Bool
  left : UInt8
def c0 : CrD := ⟨[], false, 0⟩
def CrsC (w : World) (M : Nat → Prop) (A : Option Addr) (cs : List CrD) : Prop :=
  ∃ vs : Nat → Value, Cells w M 3 A cs.length (fun i j => if j = 0 then vs i else if j = 1 then .bool (cs.getD i c0).stop else byt (cs.getD i c0).left) ∧ ∀ i, i < cs.length → IsMat w M (vs i) (cs.getD i c0).recs
def IsCrs (w : World) (M : Nat → Prop) (v : Value) (cs : List CrD) : Prop := ∃ A c, v = .slice A cs.length c ∧ cs.length ≤ c ∧ c ≤ 9223372036854775807 ∧ CrsC w M A cs
theorem Try.cells_cr : Try.prog.cellsOf 55 = 3 := by kernel_rfl
theorem Try.cells_u8 : Try.prog.cellsOf 5 = 1 := by kernel_rfl
theorem Try.cells_bool : Try.prog.cellsOf 4 = 1 := by kernel_rfl
theorem Try.cells_mat : Try.prog.cellsOf 22 = 1 := by kernel_rfl
section
variable {H : Type} {enc : TypeId × Value → H} {W : World} {base : Nat} {spare : Nat → Bool} {held : Bool}
theorem open_crs {fuel : Nat} {v : Value} {x : DataW H × List MemPlace} (h : DataW.trod enc Try.prog W base spare held fuel 53 [v] = some x) :
    ∃ cs : List CrD, IsCrs W (NB []) v cs ∧ (Sized x.1 53 → ∀ (i : Nat) (hi : i < cs.length), FitR (cs[i]).recs) := by
  rcases open_slice Try.underlying53 h with ⟨e, rfl⟩ | ⟨a, len, cap, m, n, D, Pl, e, hb, hl, hm, hmm, rfl, hi⟩
  · obtain rfl : v = .slice none 0 0 := by simpa using e
    exact ⟨[], ⟨none, 0, rfl, Nat.le_refl _, by omega, fun _ => .nilIface, fun h => absurd h (by simp), fun i h => absurd h (by simp)⟩, fun _ i hi => absurd hi (by simp)⟩
  · obtain rfl : v = .slice (some a) len cap := by simpa using e
    have hlm : len ≤ m := by rw [hmm]; split <;> omega
    rw [Try.cells_cr] at hi
    have hex : ∀ i, ∃ (u : Value) (y : CrD), i < len → W.cell? (a.add (i * 3)) = some u ∧ W.cell? ((a.add (i * 3)).add 1) = some (.bool y.stop) ∧ W.cell? ((a.add (i * 3)).add 2) = some (byt y.left) ∧ IsMat W (NB []) u y.recs ∧ (Sized (D i) 55 → FitR y.recs) := fun i => by
      by_cases hil : i < len
      · obtain ⟨cs', hc, ht⟩ := hi i (by omega)
        obtain ⟨_, hcl, hat⟩ := World.cells?_some hc
        obtain ⟨u0, u1, u2, rfl⟩ : ∃ u0 u1 u2, cs' = [u0, u1, u2] := by
          match cs', hcl with
          | [u0, u1, u2], _ => exact ⟨u0, u1, u2, rfl⟩
        obtain ⟨xs, n', -, hx, -, hxl, hf⟩ := DataW.trod_struct Try.underlying55 ht
        have h0 : DataW.trod enc Try.prog W base spare held n' 22 (([u0, u1, u2].drop 0).take (Try.prog.cellsOf 22)) = xs[0]? := hf 0 _ rfl
        have h1 : DataW.trod enc Try.prog W base spare held n' 4 (([u0, u1, u2].drop 1).take (Try.prog.cellsOf 4)) = xs[1]? := hf 1 _ rfl
        have h2 : DataW.trod enc Try.prog W base spare held n' 5 (([u0, u1, u2].drop 2).take (Try.prog.cellsOf 5)) = xs[2]? := hf 2 _ rfl
        rw [Try.cells_mat] at h0
        rw [Try.cells_bool] at h1
        rw [Try.cells_u8] at h2
        simp only [List.drop_zero, List.drop_succ_cons, List.take_succ_cons, List.take_zero] at h0 h1 h2
        match xs, hxl with
        | [x0, x1, x2], _ =>
          obtain ⟨rs, hr1, hr2, hr3, -⟩ := open_mat h0
          obtain ⟨b, hb, -⟩ := DataW.trod_bool Try.underlying4 h1
          obtain ⟨k, hk, -, hwf⟩ := DataW.trod_int Try.underlying5 h2
          obtain rfl : u1 = .bool b := by simpa using hb
          obtain rfl : u2 = .int .u8 k := by simpa using hk
          have e0 := hat 0 (by omega)
          have e1 := hat 1 (by omega)
          have e2 := hat 2 (by omega)
          rw [addr_add0] at e0
          have hD : D i = .agg [x0.1, x1.1, x2.1] := by have := congrArg Prod.fst hx; simpa using this
          have hz : Sized (D i) 55 → Sized x0.1 22 := fun hs q hq => hs q (by
            rw [hD]
            simp only [DataW.weights, Try.underlying55]
            exact weights_at (j := 0) rfl rfl hq)
          exact ⟨u0, ⟨rs, b, UInt8.ofNat k.toNat⟩, fun _ => ⟨by simpa using e0, by simpa using e1, by (show _ = some (byt (UInt8.ofNat k.toNat))); rw [byt_of hwf]; simpa using e2, hr1, fun hs => ⟨hr3 (hz hs), hr2 (hz hs)⟩⟩⟩
      · exact ⟨.nilIface, c0, fun h => absurd h hil⟩
    let U : Nat → Value := fun i => (hex i).choose
    let B : Nat → CrD := fun i => (hex i).choose_spec.choose
    have hUB : ∀ i, i < len → W.cell? (a.add (i * 3)) = some (U i) ∧ W.cell? ((a.add (i * 3)).add 1) = some (.bool (B i).stop) ∧ W.cell? ((a.add (i * 3)).add 2) = some (byt (B i).left) ∧ IsMat W (NB []) (U i) (B i).recs ∧ (Sized (D i) 55 → FitR (B i).recs) := fun i => (hex i).choose_spec.choose_spec
    refine ⟨(List.range len).map B, ⟨some a, cap, by simp, by simpa using hl, by simpa [maxLen] using hm, U, fun hn => ?_, fun i hi' => ?_⟩, fun hs i hi' => ?_⟩
    · simp at hn
      have h0 := (hUB 0 hn).1
      rw [Nat.zero_mul, addr_add0] at h0
      obtain ⟨b, off, sp⟩ := a
      obtain rfl : sp = none := spot_none h0
      refine ⟨b, off, rfl, nb0 _, fun i j hi' hj => ?_⟩
      simp at hi'
      obtain ⟨h1, h2, h3, -⟩ := hUB i hi'
      rw [add_mk] at h1 h2 h3
      rw [add_mk] at h2 h3
      have hj' : j = 0 ∨ j = 1 ∨ j = 2 := by omega
      rcases hj' with rfl | rfl | rfl
      · rw [Nat.add_zero, h1]; simp
      · rw [h2]; simp [List.getD_eq_getElem?_getD, hi']
      · rw [h3]; simp [List.getD_eq_getElem?_getD, hi']
    · simp at hi'
      have := (hUB i hi').2.2.2.1
      simpa [List.getD_eq_getElem?_getD, hi'] using this
    · simp at hi'
      simp only [List.getElem_map, List.getElem_range]
      refine (hUB i hi').2.2.2.2 fun q hq => hs q ?_
      simp only [DataW.weights, Try.underlying53]
      refine List.mem_cons_of_mem _ (List.mem_append_left _ ?_)
      exact weights_all (List.mem_map.2 ⟨i, List.mem_range.2 hi', rfl⟩) hq
end
end Go.Proofs.Ytocjhepiooljpaa
