import Derived.Test.YtgaanndidcdbpaaGen
import Derived.ProofKit
import Derived.OpenShut
import Derived.Deep.Slices
import Derived.Deep.Fields
import Derived.ChangeSame
import Derived.Lib.SmallJoins
import Derived.Carry
import Derived.SizedLaws
import Derived.Test.YtgaanndidcdbpaaZM
namespace Go.Proofs.Ytgaanndidcdbpaa
open Go.ChangeShapes Go.WideShapes Go.ChangeAt Go.RowKit Go.Deep Go.Joins

theorem spot_none {w : World} {a : Addr} {v : Value} (h : w.cell? a = some v) : a.spot = none := by
  unfold World.cell? at h
  split at h
  · cases hs : a.spot with
    | none => rfl
    | some k => simp [hs] at h
  · cases h
theorem add_mk (b off i : Nat) : (⟨b, off, none⟩ : Addr).add i = ⟨b, off + i, none⟩ := addr_add b off i
theorem addr_add0 (a : Addr) : a.add 0 = a := by
  obtain ⟨b, off, sp⟩ := a
  cases sp <;> simp [Addr.add]
theorem nb0 (b : Nat) : NB [] b := by simp [NB]
theorem u64_of {n : Int} (h : (Lit.int .u64 n).wf = true) : ∃ m : Nat, n = (m : Int) ∧ m < 18446744073709551616 := by
  have hx : 0 ≤ n ∧ n ≤ 18446744073709551615 := by simpa [Lit.wf, IntKind.min, IntKind.max, IntKind.signed, IntKind.bits] using h
  exact ⟨n.toNat, by omega, by omega⟩
theorem u32_of {n : Int} (h : (Lit.int .u32 n).wf = true) : ∃ m : Nat, n = (m : Int) ∧ m < 4294967296 := by
  have hx : 0 ≤ n ∧ n ≤ 4294967295 := by simpa [Lit.wf, IntKind.min, IntKind.max, IntKind.signed, IntKind.bits] using h
  exact ⟨n.toNat, by omega, by omega⟩
theorem weights_all {H : Type} {P : Program} {e : TypeId} {l : List (DataW H)} {d : DataW H} (hd : d ∈ l) {n : Nat} (hn : n ∈ d.weights P e) : n ∈ DataW.weightsAll P e l := by
  induction l with
  | nil => cases hd
  | cons x r ih =>
    simp only [DataW.weightsAll, List.mem_append]
    rcases List.mem_cons.1 hd with rfl | h
    · exact .inl hn
    · exact .inr (ih h)
theorem weights_at {H : Type} {P : Program} {ts : List TypeId} {ds : List (DataW H)} {j : Nat} {t : TypeId} {d : DataW H} (ht : ts[j]? = some t) (hd : ds[j]? = some d) {n : Nat} (hn : n ∈ d.weights P t) : n ∈ DataW.weightsEach P ts ds :=
  DataW.weights_mem_each ht hd n hn
theorem trodAll_below {H : Type} {enc : TypeId × Value → H} {W W' : World} (hb : Below W.heap.size W W') {ts : List TypeId} {vs : List Value} {ds : List (DataW H)} {ps : List MemPlace} (h : DataW.TrodAll enc Try.prog W 0 (fun _ => true) true ts vs ds ps) (hlt : ∀ x ∈ ps, x.block < W.heap.size)
    (ht : ∀ t ∈ ts, Try.prog.readableRec t = true ∧ t < Try.prog.types.size) (hl : laidOutB Try.prog = true) : DataW.TrodAll enc Try.prog W' 0 (fun b => decide (b < W.heap.size)) true ts vs ds ps := by
  induction ts generalizing vs ds ps with
  | nil =>
    obtain ⟨rfl, rfl, rfl⟩ := trodAll_nil h
    exact trodAll_mk0
  | cons t ts ih =>
    obtain ⟨v, vs', d, ds', p, p', rfl, rfl, rfl, h0, r0⟩ := trodAll_cons h
    obtain ⟨h1, h2⟩ := ht t (by simp)
    exact trodAll_cons_mk (Below.trod hl h1 h2 h0 hb fun x hx => hlt x (List.mem_append_left _ hx)) (ih r0 (fun x hx => hlt x (List.mem_append_right _ hx)) fun u hu => ht u (by simp [hu]))
/-- a law's row: true, and the arguments read as they did -/
theorem law_post {H : Type} {enc : TypeId × Value → H} {f : Func} {s : ChangeSpec} {W W' : World} {args : Array Value} {ds : List (DataW H)} {before : List MemPlace} (hW : DataW.Whole enc Try.prog f.params.toList s.vars false W args.toList ds [] before) (hv : s.vars = [])
    (hr : (s.fn H (ds ++ [])).results = [.lit (.bool true)]) (ha : (s.fn H (ds ++ [])).args = ds) (hvs : (s.fn H (ds ++ [])).vars = []) (hft : f.resultTypes = #[4]) (ht : ∀ t ∈ f.params.toList, Try.prog.readableRec t = true ∧ t < Try.prog.types.size) (hl : laidOutB Try.prog = true)
    (hb : Below W.heap.size W W') : s.post enc Try.prog f false true false false W args (.bool true) W' := by
  have hlt : ∀ p ∈ before, p.block < W.heap.size := fun p hp => hW.lt p hp
  have hW' := hW
  obtain ⟨p, q, hA, hV, rfl, hfz, _⟩ := hW
  rw [hv] at hV
  obtain ⟨_, rfl⟩ := trodVars_none hV
  rw [List.append_nil] at hlt hW'
  refine ⟨ds, [], p, [], p, [], hW', ?_, ?_, ?_, World.keptBut_mono (fun x hx => ⟨hx, .inr (.inl hx)⟩) (hb.frame (· ∈ p)), fun h => by cases h⟩
  · rw [hr, hft]; exact trodAll_cons_mk (shut_bool Try.underlying4 _) trodAll_mk0
  · rw [ha]; exact trodAll_below hb hA hlt ht hl
  · rw [hv, hvs]; rfl

section
variable {H : Type} {enc : TypeId × Value → H} {W : World} {base : Nat} {spare : Nat → Bool} {held : Bool}
/-- every weight is within the reach -/
def Sized (x : DataW H) (t : TypeId) : Prop := ∀ n ∈ x.weights Try.prog t, n ≤ 140737488355328

end
end Go.Proofs.Ytgaanndidcdbpaa
/- Opening of a row's argument: a slice, each element opened by a law of its own. For any seat. -/
namespace Go.Proofs.Ytgaanndidcdbpaa
open Go.ChangeShapes Go.WideShapes Go.ChangeAt Go.RowKit Go.Deep Go.Joins
section
variable {H : Type} {enc : TypeId × Value → H} {W : World} {base : Nat} {spare : Nat → Bool} {held : Bool}
theorem open_sl {T : Type} (d0 : T) {t e : TypeId} (ht : Try.prog.underlying t = some (.slice e)) (k : Nat) (hk : Try.prog.cellsOf e = k) (hk0 : 0 < k) (f : T → Nat → Value) (Q : DataW H → T → Prop)
    (hop : ∀ {n' : Nat} {cs : List Value} {y : DataW H × List MemPlace}, cs.length = k → DataW.trod enc Try.prog W base spare held n' e cs = some y → ∃ s, (∀ j, j < k → cs[j]? = some (f s j)) ∧ Q y.1 s)
    {fuel : Nat} {v : Value} {x : DataW H × List MemPlace} (h : DataW.trod enc Try.prog W base spare held fuel t [v] = some x) :
    ∃ l : List T, IsSl W (NB []) k v l.length (fun i j => f (l.getD i d0) j) ∧ ∀ i, i < l.length → ∃ D, Q D (l.getD i d0) ∧ ∀ q ∈ D.weights Try.prog e, q ∈ x.1.weights Try.prog t := by
  rcases open_slice ht h with ⟨ev, rfl⟩ | ⟨a, len, cap, m, n, D, Pl, ev, hb, hl, hm, hmm, rfl, hi⟩
  · obtain rfl : v = .slice none 0 0 := by simpa using ev
    exact ⟨[], IsSl.nil, fun i hi => absurd hi (by simp)⟩
  · obtain rfl : v = .slice (some a) len cap := by simpa using ev
    have hlm : len ≤ m := by rw [hmm]; split <;> omega
    rw [hk] at hi
    have hex : ∀ i, ∃ s : T, i < len → (∀ j, j < k → W.cell? ((a.add (i * k)).add j) = some (f s j)) ∧ Q (D i) s := fun i => by
      by_cases hil : i < len
      · obtain ⟨cs', hc, ht'⟩ := hi i (by omega)
        obtain ⟨_, hcl, hat⟩ := World.cells?_some hc
        obtain ⟨s, h1, h2⟩ := hop hcl ht'
        exact ⟨s, fun _ => ⟨fun j hj => by rw [hat j hj, h1 j hj], h2⟩⟩
      · exact ⟨d0, fun h => absurd h hil⟩
    let B : Nat → T := fun i => (hex i).choose
    have hB : ∀ i, i < len → (∀ j, j < k → W.cell? ((a.add (i * k)).add j) = some (f (B i) j)) ∧ Q (D i) (B i) := fun i => (hex i).choose_spec
    have hget : ∀ i, i < len → ((List.range len).map B).getD i d0 = B i := fun i hi' => by
      rw [List.getD_eq_getElem?_getD, List.getElem?_map, List.getElem?_range hi']; rfl
    refine ⟨(List.range len).map B, ⟨some a, cap, by simp, by simpa using hl, by simpa [maxLen] using hm, fun hn => ?_⟩, fun i hi' => ?_⟩
    · simp at hn
      have h0 := (hB 0 hn).1 0 hk0
      rw [Nat.zero_mul, addr_add0, addr_add0] at h0
      obtain ⟨b, off, sp⟩ := a
      obtain rfl : sp = none := spot_none h0
      refine ⟨b, off, rfl, nb0 _, fun i j hi' hj => ?_⟩
      simp at hi'
      have h1 := (hB i hi').1 j hj
      rw [add_mk, add_mk] at h1
      show _ = some (f (((List.range len).map B).getD i d0) j)
      rw [hget i hi', h1]
    · simp at hi'
      refine ⟨D i, by rw [hget i hi']; exact (hB i hi').2, fun q hq => ?_⟩
      simp only [DataW.weights, ht]
      refine List.mem_cons_of_mem _ (List.mem_append_left _ ?_)
      exact weights_all (List.mem_map.2 ⟨i, List.mem_range.2 hi', rfl⟩) hq
end
end Go.Proofs.Ytgaanndidcdbpaa
/- Opening of a row's arguments: ints, polynomials, steps. -/
namespace Go.Proofs.Ytgaanndidcdbpaa
open Go.ChangeShapes Go.WideShapes Go.ChangeAt Go.RowKit Go.Deep Go.Joins
theorem Try.cells_int : Try.prog.cellsOf 3 = 1 := by kernel_rfl
theorem Try.cells_u64 : Try.prog.cellsOf 23 = 1 := by kernel_rfl
theorem Try.cells_u8 : Try.prog.cellsOf 5 = 1 := by kernel_rfl
theorem Try.cells_u64s : Try.prog.cellsOf 35 = 1 := by kernel_rfl
theorem Try.cells_step : Try.prog.cellsOf 37 = 2 := by kernel_rfl
theorem i64_of {n : Int} (h : (Lit.int .i64 n).wf = true) : W64 n := by
  have hx : -9223372036854775808 ≤ n ∧ n ≤ 9223372036854775807 := by simpa [Lit.wf, IntKind.min, IntKind.max, IntKind.signed, IntKind.bits] using h
  exact hx
theorem u8_of {z : Int} (h : (Lit.int .u8 z).wf = true) : ∃ m : Nat, z = (m : Int) ∧ m < 256 := by
  have hx : 0 ≤ z ∧ z ≤ 255 := by simpa [Lit.wf, IntKind.min, IntKind.max, IntKind.signed, IntKind.bits] using h
  exact ⟨z.toNat, by omega, by omega⟩
section
variable {H : Type} {enc : TypeId × Value → H} {W : World} {base : Nat} {spare : Nat → Bool} {held : Bool}
theorem open_u64c {n' : Nat} {c0 : Value} {x : DataW H × List MemPlace} (h : DataW.trod enc Try.prog W base spare held n' 23 [c0] = some x) : ∃ m : Nat, c0 = .int .u64 (m : Int) ∧ m < 18446744073709551616 := by
  obtain ⟨k0, hk0, -, hw0⟩ := DataW.trod_int Try.underlying23 h
  obtain ⟨m0, e0, h1⟩ := u64_of hw0
  exact ⟨m0, by rw [← e0]; simpa using hk0, h1⟩
theorem open_intc {n' : Nat} {c0 : Value} {x : DataW H × List MemPlace} (h : DataW.trod enc Try.prog W base spare held n' 3 [c0] = some x) : ∃ z : Int, c0 = .int .i64 z ∧ W64 z := by
  obtain ⟨k0, hk0, -, hw0⟩ := DataW.trod_int Try.underlying3 h
  exact ⟨k0, by simpa using hk0, i64_of hw0⟩
theorem open_u8c {n' : Nat} {c0 : Value} {x : DataW H × List MemPlace} (h : DataW.trod enc Try.prog W base spare held n' 5 [c0] = some x) : ∃ m : Nat, c0 = .int .u8 (m : Int) ∧ m < 256 := by
  obtain ⟨k0, hk0, -, hw0⟩ := DataW.trod_int Try.underlying5 h
  obtain ⟨m0, e0, h1⟩ := u8_of hw0
  exact ⟨m0, by rw [← e0]; simpa using hk0, h1⟩
theorem one_of {cs : List Value} (h : cs.length = 1) : ∃ c, cs = [c] := by
  match cs, h with
  | [c], _ => exact ⟨c, rfl⟩
theorem two_of {cs : List Value} (h : cs.length = 2) : ∃ c d, cs = [c, d] := by
  match cs, h with
  | [c, d], _ => exact ⟨c, d, rfl⟩
theorem open_intL {fuel : Nat} {v : Value} {x : DataW H × List MemPlace} (h : DataW.trod enc Try.prog W base spare held fuel 22 [v] = some x) : ∃ xs : List Int, IsInts W (NB []) v xs ∧ ∀ i, i < xs.length → W64 (nthI xs i) := by
  obtain ⟨l, h1, h2⟩ := open_sl (T := Int) 0 Try.underlying22 1 Try.cells_int (by decide) (fun s _ => .int .i64 s) (fun _ s => W64 s) (fun hl ht => by
    obtain ⟨c, rfl⟩ := one_of hl
    obtain ⟨z, rfl, hz⟩ := open_intc ht
    exact ⟨z, fun j hj => by obtain rfl : j = 0 := by omega
                             rfl, hz⟩) h
  exact ⟨l, h1, fun i hi => by obtain ⟨D, hD, -⟩ := h2 i hi; exact hD⟩
theorem open_u64L {fuel : Nat} {v : Value} {x : DataW H × List MemPlace} (h : DataW.trod enc Try.prog W base spare held fuel 35 [v] = some x) : ∃ xs : List Nat, IsU64 W (NB []) v xs ∧ U64s xs := by
  obtain ⟨l, h1, h2⟩ := open_sl (T := Nat) 0 Try.underlying35 1 Try.cells_u64 (by decide) (fun s _ => .int .u64 (s : Int)) (fun _ s => s < 18446744073709551616) (fun hl ht => by
    obtain ⟨c, rfl⟩ := one_of hl
    obtain ⟨z, rfl, hz⟩ := open_u64c ht
    exact ⟨z, fun j hj => by obtain rfl : j = 0 := by omega
                             rfl, hz⟩) h
  refine ⟨l, h1, fun y hy => ?_⟩
  obtain ⟨i, hi, rfl⟩ := List.getElem_of_mem hy
  obtain ⟨D, hD, -⟩ := h2 i hi
  rwa [List.getD_eq_getElem?_getD, List.getElem?_eq_getElem hi] at hD
theorem open_u8L {fuel : Nat} {v : Value} {x : DataW H × List MemPlace} (h : DataW.trod enc Try.prog W base spare held fuel 45 [v] = some x) : ∃ xs : List Nat, IsSl W (NB []) 1 v xs.length (fun i _ => .int .u8 ((xs.getD i 0 : Nat) : Int)) ∧ ∀ i, i < xs.length → xs.getD i 0 < 256 := by
  obtain ⟨l, h1, h2⟩ := open_sl (T := Nat) 0 Try.underlying45 1 Try.cells_u8 (by decide) (fun s _ => .int .u8 (s : Int)) (fun _ s => s < 256) (fun hl ht => by
    obtain ⟨c, rfl⟩ := one_of hl
    obtain ⟨z, rfl, hz⟩ := open_u8c ht
    exact ⟨z, fun j hj => by obtain rfl : j = 0 := by omega
                             rfl, hz⟩) h
  exact ⟨l, h1, fun i hi => by obtain ⟨D, hD, -⟩ := h2 i hi; exact hD⟩
theorem open_pol {fuel : Nat} {v : Value} {x : DataW H × List MemPlace} (h : DataW.trod enc Try.prog W base spare held fuel 24 [v] = some x) : ∃ ps : List (List Nat), IsPol W (NB []) v ps ∧ ∀ i, i < ps.length → U64s (polN ps i) := by
  obtain ⟨l, h1, h2⟩ := open_sl (T := Value × List Nat) (.nilIface, []) Try.underlying24 1 Try.cells_u64s (by decide) (fun s _ => s.1) (fun _ s => IsU64 W (NB []) s.1 s.2 ∧ U64s s.2) (fun hl ht => by
    obtain ⟨c, rfl⟩ := one_of hl
    obtain ⟨z, hz, hu⟩ := open_u64L ht
    exact ⟨(c, z), fun j hj => by obtain rfl : j = 0 := by omega
                                  rfl, hz, hu⟩) h
  have e : ∀ i, i < l.length → polN (l.map Prod.snd) i = (l.getD i (.nilIface, [])).2 := fun i hi => by
    unfold polN
    rw [List.getD_eq_getElem?_getD, List.getD_eq_getElem?_getD, List.getElem?_map, List.getElem?_eq_getElem hi]; rfl
  refine ⟨l.map Prod.snd, ⟨fun i => (l.getD i (.nilIface, [])).1, by rw [List.length_map]; exact h1, fun i hi => ?_⟩, fun i hi => ?_⟩
  · rw [List.length_map] at hi
    rw [e i hi]; obtain ⟨D, hD, -⟩ := h2 i hi; exact hD.1
  · rw [List.length_map] at hi
    rw [e i hi]; obtain ⟨D, hD, -⟩ := h2 i hi; exact hD.2
theorem open_step2 {n' : Nat} {c0 c1 : Value} {x : DataW H × List MemPlace} (h : DataW.trod enc Try.prog W base spare held n' 37 [c0, c1] = some x) :
    ∃ s : Nat × Nat, c0 = .int .u8 (s.1 : Int) ∧ c1 = .int .u8 (s.2 : Int) ∧ s.1 < 256 ∧ s.2 < 256 := by
  obtain ⟨xs, n', -, hx, -, hxl, hf⟩ := DataW.trod_struct Try.underlying37 h
  have h0 : DataW.trod enc Try.prog W base spare held n' 5 (([c0, c1].drop 0).take (Try.prog.cellsOf 5)) = xs[0]? := hf 0 _ rfl
  have h1 : DataW.trod enc Try.prog W base spare held n' 5 (([c0, c1].drop 1).take (Try.prog.cellsOf 5)) = xs[1]? := hf 1 _ rfl
  rw [Try.cells_u8] at h0 h1
  simp only [List.drop_zero, List.drop_succ_cons, List.take_succ_cons, List.take_zero] at h0 h1
  match xs, hxl with
  | [x0, x1], _ =>
    obtain ⟨m0, e0, l0⟩ := open_u8c h0
    obtain ⟨m1, e1, l1⟩ := open_u8c h1
    exact ⟨(m0, m1), e0, e1, l0, l1⟩
set_option maxRecDepth 100000 in
theorem open_step {r : Reach} {b0 : Nat} {v : Value} {d : DataW H} {p : List MemPlace} (hv : Value.okWide Try.prog W r b0 37 v) (h : DataW.Trod enc Try.prog W base spare held 37 v d p) : ∃ s : Nat × Nat, v = .agg #[.int .u8 (s.1 : Int), .int .u8 (s.2 : Int)] ∧ s.1 < 256 ∧ s.2 < 256 := by
  obtain ⟨u, s, y, t, nn, rfl, rfl, rfl, g, k⟩ := open_agg2 Try.underlying37 (by kernel_rfl) Try.cells_step hv h
  obtain ⟨m0, rfl, l0⟩ := open_u8c g
  obtain ⟨m1, rfl, l1⟩ := open_u8c k
  exact ⟨(m0, m1), rfl, l0, l1⟩
set_option maxRecDepth 100000 in
theorem open_stepL {fuel : Nat} {v : Value} {x : DataW H × List MemPlace} (h : DataW.trod enc Try.prog W base spare held fuel 25 [v] = some x) : ∃ ss : List (Nat × Nat), IsSteps W (NB []) v ss ∧ ∀ i, i < ss.length → (ss.getD i (0, 0)).1 < 256 ∧ (ss.getD i (0, 0)).2 < 256 := by
  obtain ⟨l, h1, h2⟩ := open_sl (T := Nat × Nat) (0, 0) Try.underlying25 2 Try.cells_step (by decide) stC (fun _ s => s.1 < 256 ∧ s.2 < 256) (fun hl ht => by
    obtain ⟨c, d, rfl⟩ := two_of hl
    obtain ⟨z, rfl, rfl, hz⟩ := open_step2 ht
    exact ⟨z, fun j hj => by
      rcases (by omega : j = 0 ∨ j = 1) with rfl | rfl <;> rfl, hz⟩) h
  exact ⟨l, h1, fun i hi => by obtain ⟨D, hD, -⟩ := h2 i hi; exact hD⟩
end
end Go.Proofs.Ytgaanndidcdbpaa
/- Opening of a row's arguments: beacons, commitments, reveals, opened shares. -/
namespace Go.Proofs.Ytgaanndidcdbpaa
open Go.ChangeShapes Go.WideShapes Go.ChangeAt Go.RowKit Go.Deep Go.Joins
theorem Try.cells_com : Try.prog.cellsOf 64 = 2 := by kernel_rfl
theorem Try.cells_rev : Try.prog.cellsOf 52 = 2 := by kernel_rfl
theorem Try.cells_opn : Try.prog.cellsOf 61 = 4 := by kernel_rfl
theorem Try.cells_sh : Try.prog.cellsOf 59 = 2 := by kernel_rfl
theorem Try.cells_bea : Try.prog.cellsOf 32 = 6 := by kernel_rfl
theorem Try.cells_ints : Try.prog.cellsOf 22 = 1 := by kernel_rfl
theorem Try.cells_coms : Try.prog.cellsOf 28 = 1 := by kernel_rfl
theorem Try.cells_revs : Try.prog.cellsOf 29 = 1 := by kernel_rfl
theorem Try.cells_opns : Try.prog.cellsOf 30 = 1 := by kernel_rfl
theorem Try.bytes_u64 : Try.prog.bytesOf 23 = 8 := by kernel_rfl
theorem four_of {cs : List Value} (h : cs.length = 4) : ∃ c d e f, cs = [c, d, e, f] := by
  match cs, h with
  | [c, d, e, f], _ => exact ⟨c, d, e, f, rfl⟩
theorem six_of {α : Type} {cs : Array α} (h : cs.size = 6) : ∃ c0 c1 c2 c3 c4 c5, cs = #[c0, c1, c2, c3, c4, c5] := by
  obtain ⟨l⟩ := cs
  match l, h with
  | [c0, c1, c2, c3, c4, c5], _ => exact ⟨c0, c1, c2, c3, c4, c5, rfl⟩
theorem four_ofA {α : Type} {cs : Array α} (h : cs.size = 4) : ∃ c0 c1 c2 c3, cs = #[c0, c1, c2, c3] := by
  obtain ⟨l⟩ := cs
  match l, h with
  | [c0, c1, c2, c3], _ => exact ⟨c0, c1, c2, c3, rfl⟩
section
variable {H : Type} {enc : TypeId × Value → H} {W : World} {base : Nat} {spare : Nat → Bool} {held : Bool}
/-- numbers, with the length of their slice -/
theorem open_u64S {fuel : Nat} {v : Value} {x : DataW H × List MemPlace} (h : DataW.trod enc Try.prog W base spare held fuel 35 [v] = some x) : ∃ xs : List Nat, IsU64 W (NB []) v xs ∧ U64s xs ∧ (Sized x.1 35 → xs.length ≤ 140737488355328) := by
  obtain ⟨xs, h1, h2⟩ := open_u64L h
  refine ⟨xs, h1, h2, fun hs => ?_⟩
  rcases open_slice Try.underlying35 h with ⟨ev, rfl⟩ | ⟨a, len, cap, m, n, D, Pl, ev, hb, hl, hm, hmm, rfl, hi⟩
  · obtain rfl : v = .slice none 0 0 := by simpa using ev
    obtain ⟨A, c, e, -⟩ := h1
    injection e with e1 e2 e3
    omega
  · obtain rfl : v = .slice (some a) len cap := by simpa using ev
    have hlm : len ≤ m := by rw [hmm]; split <;> omega
    obtain ⟨A, c, e, -⟩ := h1
    injection e with e1 e2 e3
    have := hs (((List.range len).map D).length * 8 + ((List.range (m - len)).map fun j => D (len + j)).length * 8) (by
      simp only [DataW.weights, Try.underlying35, Try.bytes_u64]
      rw [← Nat.add_mul]
      simp)
    simp at this
    omega
theorem open_polS {fuel : Nat} {v : Value} {x : DataW H × List MemPlace} (h : DataW.trod enc Try.prog W base spare held fuel 24 [v] = some x) : ∃ ps : List (List Nat), IsPol W (NB []) v ps ∧ (∀ i, i < ps.length → U64s (polN ps i)) ∧ (Sized x.1 24 → ∀ i, i < ps.length → (polN ps i).length ≤ 140737488355328) := by
  obtain ⟨l, h1, h2⟩ := open_sl (T := Value × List Nat) (.nilIface, []) Try.underlying24 1 Try.cells_u64s (by decide) (fun s _ => s.1) (fun D s => IsU64 W (NB []) s.1 s.2 ∧ U64s s.2 ∧ (Sized D 35 → s.2.length ≤ 140737488355328)) (fun hl ht => by
    obtain ⟨c, rfl⟩ := one_of hl
    obtain ⟨z, hz, hu, hs⟩ := open_u64S ht
    exact ⟨(c, z), fun j hj => by obtain rfl : j = 0 := by omega
                                  rfl, hz, hu, hs⟩) h
  have e : ∀ i, i < l.length → polN (l.map Prod.snd) i = (l.getD i (.nilIface, [])).2 := fun i hi => by
    unfold polN
    rw [List.getD_eq_getElem?_getD, List.getD_eq_getElem?_getD, List.getElem?_map, List.getElem?_eq_getElem hi]; rfl
  refine ⟨l.map Prod.snd, ⟨fun i => (l.getD i (.nilIface, [])).1, by rw [List.length_map]; exact h1, fun i hi => ?_⟩, fun i hi => ?_, fun hs i hi => ?_⟩
  · rw [List.length_map] at hi
    rw [e i hi]; obtain ⟨D, hD, -⟩ := h2 i hi; exact hD.1
  · rw [List.length_map] at hi
    rw [e i hi]; obtain ⟨D, hD, -⟩ := h2 i hi; exact hD.2.1
  · rw [List.length_map] at hi
    rw [e i hi]; obtain ⟨D, hD, hw⟩ := h2 i hi
    exact hD.2.2 fun q hq => hs q (hw q hq)
def comV1 (s : Value × ComD) (j : Nat) : Value := if j = 0 then .int .i64 s.2.club else s.1
theorem open_com2 {n' : Nat} {c0 c1 : Value} {x : DataW H × List MemPlace} (h : DataW.trod enc Try.prog W base spare held n' 64 [c0, c1] = some x) :
    ∃ c : ComD, c0 = .int .i64 c.club ∧ IsU64 W (NB []) c1 c.checks ∧ W64 c.club ∧ U64s c.checks ∧ (Sized x.1 64 → c.checks.length ≤ 140737488355328) := by
  obtain ⟨xs, n', -, hx, -, hxl, hf⟩ := DataW.trod_struct Try.underlying64 h
  have h0 : DataW.trod enc Try.prog W base spare held n' 3 (([c0, c1].drop 0).take (Try.prog.cellsOf 3)) = xs[0]? := hf 0 _ rfl
  have h1 : DataW.trod enc Try.prog W base spare held n' 35 (([c0, c1].drop 1).take (Try.prog.cellsOf 35)) = xs[1]? := hf 1 _ rfl
  rw [Try.cells_int] at h0
  rw [Try.cells_u64s] at h1
  simp only [List.drop_zero, List.drop_succ_cons, List.take_succ_cons, List.take_zero] at h0 h1
  match xs, hxl with
  | [x0, x1], _ =>
    obtain ⟨z, rfl, hz⟩ := open_intc h0
    obtain ⟨l, k1, k2, k3⟩ := open_u64S h1
    refine ⟨⟨z, l⟩, rfl, k1, hz, k2, fun hs => k3 fun q hq => hs q ?_⟩
    rw [hx]
    simp only [DataW.weights, Try.underlying64]
    exact weights_at (j := 1) rfl rfl hq
set_option maxRecDepth 100000 in
theorem open_com {r : Reach} {b0 : Nat} {v : Value} {d : DataW H} {p : List MemPlace} (hv : Value.okWide Try.prog W r b0 64 v) (h : DataW.Trod enc Try.prog W base spare held 64 v d p) : ∃ c : ComD, IsCom W (NB []) v c ∧ W64 c.club ∧ U64s c.checks ∧ (Sized d 64 → c.checks.length ≤ 140737488355328) := by
  obtain ⟨cs, rfl, hsz⟩ := okWide_struct Try.underlying64 hv
  obtain ⟨l⟩ := cs
  obtain ⟨c0, c1, rfl⟩ := two_of (show l.length = 2 from hsz.trans Try.cells_com)
  obtain ⟨fuel, hf⟩ := h
  obtain ⟨c, rfl, h1, h2, h3, h4⟩ := open_com2 (by simpa [Value.cells] using hf)
  exact ⟨c, ⟨c1, rfl, h1⟩, h2, h3, h4⟩
theorem open_coms {fuel : Nat} {v : Value} {x : DataW H × List MemPlace} (h : DataW.trod enc Try.prog W base spare held fuel 28 [v] = some x) :
    ∃ l : List ComD, IsComs W (NB []) v l ∧ (∀ i, i < l.length → W64 (comN l i).club ∧ U64s (comN l i).checks) ∧ (Sized x.1 28 → ∀ i, i < l.length → (comN l i).checks.length ≤ 140737488355328) := by
  obtain ⟨l, h1, h2⟩ := open_sl (T := Value × ComD) (.nilIface, com0) Try.underlying28 2 Try.cells_com (by decide) comV1 (fun D s => IsU64 W (NB []) s.1 s.2.checks ∧ W64 s.2.club ∧ U64s s.2.checks ∧ (Sized D 64 → s.2.checks.length ≤ 140737488355328)) (fun hl ht => by
    obtain ⟨c, d, rfl⟩ := two_of hl
    obtain ⟨z, rfl, h1, h2⟩ := open_com2 ht
    exact ⟨(d, z), fun j hj => by
      rcases (by omega : j = 0 ∨ j = 1) with rfl | rfl <;> rfl, h1, h2⟩) h
  have e : ∀ i, i < l.length → comN (l.map Prod.snd) i = (l.getD i (.nilIface, com0)).2 := fun i hi => by
    unfold comN
    rw [List.getD_eq_getElem?_getD, List.getD_eq_getElem?_getD, List.getElem?_map, List.getElem?_eq_getElem hi]; rfl
  refine ⟨l.map Prod.snd, ⟨fun i => (l.getD i (.nilIface, com0)).1, ?_, fun i hi => ?_⟩, fun i hi => ?_, fun hs i hi => ?_⟩
  · rw [List.length_map]
    refine h1.congr fun i j hi hj => ?_
    unfold comC comV1
    rw [e i hi]
  · rw [List.length_map] at hi
    rw [e i hi]; obtain ⟨D, hD, -⟩ := h2 i hi; exact hD.1
  · rw [List.length_map] at hi
    rw [e i hi]; obtain ⟨D, hD, -⟩ := h2 i hi; exact ⟨hD.2.1, hD.2.2.1⟩
  · rw [List.length_map] at hi
    rw [e i hi]; obtain ⟨D, hD, hw⟩ := h2 i hi
    exact hD.2.2.2 fun q hq => hs q (hw q hq)
theorem open_rev2 {n' : Nat} {c0 c1 : Value} {x : DataW H × List MemPlace} (h : DataW.trod enc Try.prog W base spare held n' 52 [c0, c1] = some x) :
    ∃ r : RevD, c0 = .int .i64 r.club ∧ c1 = .int .u64 (r.num : Int) ∧ W64 r.club ∧ r.num < 18446744073709551616 := by
  obtain ⟨xs, n', -, hx, -, hxl, hf⟩ := DataW.trod_struct Try.underlying52 h
  have h0 : DataW.trod enc Try.prog W base spare held n' 3 (([c0, c1].drop 0).take (Try.prog.cellsOf 3)) = xs[0]? := hf 0 _ rfl
  have h1 : DataW.trod enc Try.prog W base spare held n' 23 (([c0, c1].drop 1).take (Try.prog.cellsOf 23)) = xs[1]? := hf 1 _ rfl
  rw [Try.cells_int] at h0
  rw [Try.cells_u64] at h1
  simp only [List.drop_zero, List.drop_succ_cons, List.take_succ_cons, List.take_zero] at h0 h1
  match xs, hxl with
  | [x0, x1], _ =>
    obtain ⟨z, rfl, hz⟩ := open_intc h0
    obtain ⟨m, rfl, hm⟩ := open_u64c h1
    exact ⟨⟨z, m⟩, rfl, rfl, hz, hm⟩
set_option maxRecDepth 100000 in
theorem open_rev {r : Reach} {b0 : Nat} {v : Value} {d : DataW H} {p : List MemPlace} (hv : Value.okWide Try.prog W r b0 52 v) (h : DataW.Trod enc Try.prog W base spare held 52 v d p) : ∃ c : RevD, v = .agg #[.int .i64 c.club, .int .u64 (c.num : Int)] ∧ W64 c.club ∧ c.num < 18446744073709551616 := by
  obtain ⟨cs, rfl, hsz⟩ := okWide_struct Try.underlying52 hv
  obtain ⟨l⟩ := cs
  obtain ⟨c0, c1, rfl⟩ := two_of (show l.length = 2 from hsz.trans Try.cells_rev)
  obtain ⟨fuel, hf⟩ := h
  obtain ⟨c, rfl, rfl, h2⟩ := open_rev2 (by simpa [Value.cells] using hf)
  exact ⟨c, rfl, h2⟩
theorem open_revs {fuel : Nat} {v : Value} {x : DataW H × List MemPlace} (h : DataW.trod enc Try.prog W base spare held fuel 29 [v] = some x) :
    ∃ l : List RevD, IsRevs W (NB []) v l ∧ ∀ i, i < l.length → W64 (revN l i).club ∧ (revN l i).num < 18446744073709551616 := by
  obtain ⟨l, h1, h2⟩ := open_sl (T := RevD) rev0 Try.underlying29 2 Try.cells_rev (by decide) revC (fun _ s => W64 s.club ∧ s.num < 18446744073709551616) (fun hl ht => by
    obtain ⟨c, d, rfl⟩ := two_of hl
    obtain ⟨z, rfl, rfl, h2⟩ := open_rev2 ht
    exact ⟨z, fun j hj => by
      rcases (by omega : j = 0 ∨ j = 1) with rfl | rfl <;> rfl, h2⟩) h
  exact ⟨l, h1, fun i hi => by obtain ⟨D, hD, -⟩ := h2 i hi; exact hD⟩
theorem open_opn4 {n' : Nat} {c0 c1 c2 c3 : Value} {x : DataW H × List MemPlace} (h : DataW.trod enc Try.prog W base spare held n' 61 [c0, c1, c2, c3] = some x) :
    ∃ o : OpnD, c0 = .int .i64 o.club ∧ c1 = .int .i64 o.frm ∧ c2 = .int .u64 (o.sh.1 : Int) ∧ c3 = .int .u64 (o.sh.2 : Int) ∧ W64 o.club ∧ W64 o.frm ∧ o.sh.1 < 18446744073709551616 ∧ o.sh.2 < 18446744073709551616 := by
  obtain ⟨xs, n', -, hx, -, hxl, hf⟩ := DataW.trod_struct Try.underlying61 h
  have h0 : DataW.trod enc Try.prog W base spare held n' 3 (([c0, c1, c2, c3].drop 0).take (Try.prog.cellsOf 3)) = xs[0]? := hf 0 _ rfl
  have h1 : DataW.trod enc Try.prog W base spare held n' 3 (([c0, c1, c2, c3].drop 1).take (Try.prog.cellsOf 3)) = xs[1]? := hf 1 _ rfl
  have h2 : DataW.trod enc Try.prog W base spare held n' 59 (([c0, c1, c2, c3].drop 2).take (Try.prog.cellsOf 59)) = xs[2]? := hf 2 _ rfl
  rw [Try.cells_int] at h0 h1
  rw [Try.cells_sh] at h2
  simp only [List.drop_zero, List.drop_succ_cons, List.take_succ_cons, List.take_zero] at h0 h1 h2
  match xs, hxl with
  | [x0, x1, x2], _ =>
    obtain ⟨z, rfl, hz⟩ := open_intc h0
    obtain ⟨f, rfl, hf'⟩ := open_intc h1
    obtain ⟨ys, m', -, hy, -, hyl, hg⟩ := DataW.trod_struct Try.underlying59 h2
    have g0 : DataW.trod enc Try.prog W base spare held m' 23 (([c2, c3].drop 0).take (Try.prog.cellsOf 23)) = ys[0]? := hg 0 _ rfl
    have g1 : DataW.trod enc Try.prog W base spare held m' 23 (([c2, c3].drop 1).take (Try.prog.cellsOf 23)) = ys[1]? := hg 1 _ rfl
    rw [Try.cells_u64] at g0 g1
    simp only [List.drop_zero, List.drop_succ_cons, List.take_succ_cons, List.take_zero] at g0 g1
    match ys, hyl with
    | [y0, y1], _ =>
      obtain ⟨m, rfl, hm⟩ := open_u64c g0
      obtain ⟨k, rfl, hk⟩ := open_u64c g1
      exact ⟨⟨z, f, (m, k)⟩, rfl, rfl, rfl, rfl, hz, hf', hm, hk⟩
set_option maxRecDepth 100000 in
theorem open_opn {r : Reach} {b0 : Nat} {v : Value} {d : DataW H} {p : List MemPlace} (hv : Value.okWide Try.prog W r b0 61 v) (h : DataW.Trod enc Try.prog W base spare held 61 v d p) : ∃ o : OpnD, v = .agg #[.int .i64 o.club, .int .i64 o.frm, .int .u64 (o.sh.1 : Int), .int .u64 (o.sh.2 : Int)] ∧ W64 o.club ∧ W64 o.frm ∧ o.sh.1 < 18446744073709551616 ∧ o.sh.2 < 18446744073709551616 := by
  obtain ⟨cs, rfl, hsz⟩ := okWide_struct Try.underlying61 hv
  obtain ⟨c0, c1, c2, c3, rfl⟩ := four_ofA (hsz.trans Try.cells_opn)
  obtain ⟨fuel, hf⟩ := h
  obtain ⟨o, rfl, rfl, rfl, rfl, h2⟩ := open_opn4 (by simpa [Value.cells] using hf)
  exact ⟨o, rfl, h2⟩
theorem open_opns {fuel : Nat} {v : Value} {x : DataW H × List MemPlace} (h : DataW.trod enc Try.prog W base spare held fuel 30 [v] = some x) :
    ∃ l : List OpnD, IsOpns W (NB []) v l ∧ ∀ i, i < l.length → W64 (opnN l i).club ∧ W64 (opnN l i).frm ∧ (opnN l i).sh.1 < 18446744073709551616 ∧ (opnN l i).sh.2 < 18446744073709551616 := by
  obtain ⟨l, h1, h2⟩ := open_sl (T := OpnD) opn0 Try.underlying30 4 Try.cells_opn (by decide) opnC (fun _ o => W64 o.club ∧ W64 o.frm ∧ o.sh.1 < 18446744073709551616 ∧ o.sh.2 < 18446744073709551616) (fun hl ht => by
    obtain ⟨c, d, e, f, rfl⟩ := four_of hl
    obtain ⟨z, rfl, rfl, rfl, rfl, h2⟩ := open_opn4 ht
    exact ⟨z, fun j hj => by
      rcases (by omega : j = 0 ∨ j = 1 ∨ j = 2 ∨ j = 3) with rfl | rfl | rfl | rfl <;> rfl, h2⟩) h
  exact ⟨l, h1, fun i hi => by obtain ⟨D, hD, -⟩ := h2 i hi; exact hD⟩
theorem open_bea6 {n' : Nat} {c0 c1 c2 c3 c4 c5 : Value} {x : DataW H × List MemPlace} (h : DataW.trod enc Try.prog W base spare held n' 32 [c0, c1, c2, c3, c4, c5] = some x) :
    ∃ b : BeaD, IsBea W (NB []) (.agg #[c0, c1, c2, c3, c4, c5]) b ∧ (Sized x.1 32 → SizedB b) := by
  obtain ⟨xs, n', -, hx, -, hxl, hf⟩ := DataW.trod_struct Try.underlying32 h
  have h0 : DataW.trod enc Try.prog W base spare held n' 22 (([c0, c1, c2, c3, c4, c5].drop 0).take (Try.prog.cellsOf 22)) = xs[0]? := hf 0 _ rfl
  have h1 : DataW.trod enc Try.prog W base spare held n' 3 (([c0, c1, c2, c3, c4, c5].drop 1).take (Try.prog.cellsOf 3)) = xs[1]? := hf 1 _ rfl
  have h2 : DataW.trod enc Try.prog W base spare held n' 23 (([c0, c1, c2, c3, c4, c5].drop 2).take (Try.prog.cellsOf 23)) = xs[2]? := hf 2 _ rfl
  have h3 : DataW.trod enc Try.prog W base spare held n' 28 (([c0, c1, c2, c3, c4, c5].drop 3).take (Try.prog.cellsOf 28)) = xs[3]? := hf 3 _ rfl
  have h4 : DataW.trod enc Try.prog W base spare held n' 29 (([c0, c1, c2, c3, c4, c5].drop 4).take (Try.prog.cellsOf 29)) = xs[4]? := hf 4 _ rfl
  have h5 : DataW.trod enc Try.prog W base spare held n' 30 (([c0, c1, c2, c3, c4, c5].drop 5).take (Try.prog.cellsOf 30)) = xs[5]? := hf 5 _ rfl
  rw [Try.cells_ints] at h0
  rw [Try.cells_int] at h1
  rw [Try.cells_u64] at h2
  rw [Try.cells_coms] at h3
  rw [Try.cells_revs] at h4
  rw [Try.cells_opns] at h5
  simp only [List.drop_zero, List.drop_succ_cons, List.take_succ_cons, List.take_zero] at h0 h1 h2 h3 h4 h5
  match xs, hxl with
  | [x0, x1, x2, x3, x4, x5], _ =>
    obtain ⟨l0, k0, w0⟩ := open_intL h0
    obtain ⟨t, rfl, w1⟩ := open_intc h1
    obtain ⟨g, rfl, w2⟩ := open_u64c h2
    obtain ⟨l3, k3, w3, s3⟩ := open_coms h3
    obtain ⟨l4, k4, w4⟩ := open_revs h4
    obtain ⟨l5, k5, w5⟩ := open_opns h5
    refine ⟨⟨l0, t, g, l3, l4, l5⟩, ⟨_, _, _, _, rfl, k0, k3, k4, k5⟩, fun hs => ⟨w0, fun i hi => (w3 i hi).1, fun i hi => ⟨(w3 i hi).2, s3 (fun q hq => hs q ?_) i hi⟩, w4, w5, w2, w1⟩⟩
    rw [hx]
    simp only [DataW.weights, Try.underlying32]
    exact weights_at (j := 3) rfl rfl hq
set_option maxRecDepth 100000 in
theorem open_bea {r : Reach} {b0 : Nat} {v : Value} {d : DataW H} {p : List MemPlace} (hv : Value.okWide Try.prog W r b0 32 v) (h : DataW.Trod enc Try.prog W base spare held 32 v d p) : ∃ b : BeaD, IsBea W (NB []) v b ∧ (Sized d 32 → SizedB b) := by
  obtain ⟨cs, rfl, hsz⟩ := okWide_struct Try.underlying32 hv
  obtain ⟨c0, c1, c2, c3, c4, c5, rfl⟩ := six_of (hsz.trans Try.cells_bea)
  obtain ⟨fuel, hf⟩ := h
  obtain ⟨b, h1, h2⟩ := open_bea6 (by simpa [Value.cells] using hf)
  exact ⟨b, h1, h2⟩
end
end Go.Proofs.Ytgaanndidcdbpaa
