import Derived.Test.YtgaanndidcdbpaaGen
import Derived.ProofKit
import Derived.OpenShut
import Derived.Deep.Slices
import Derived.Deep.Fields
import Derived.ChangeSame
import Derived.Lib.SmallJoins
import Derived.Carry
import Derived.SizedLaws
import Derived.Test.YtgaanndidcdbpaaZL
namespace Go.Proofs.Ytgaanndidcdbpaa
open Go.ChangeShapes Go.WideShapes Go.ChangeAt Go.RowKit Go.Deep Go.Joins

theorem spot_none {w : World} {a : Addr} {v : Value} (h : w.cell? a = some v) : a.spot = none := by
  unfold World.cell? at h
  split at h
  · cases hs : a.spot with
    | none => rfl
    | some k => simp [hs] at h
  · cases h
theorem add_mk (b off i : Nat) : (⟨b, off, none⟩ : Addr).add i = ⟨b, off + i, none⟩ := addr_add b off i
theorem addr_add0 (a : Addr) : a.add 0 = a := by
  obtain ⟨b, off, sp⟩ := a
  cases sp <;> simp [Addr.add]
theorem nb0 (b : Nat) : NB [] b := by simp [NB]
theorem u64_of {n : Int} (h : (Lit.int .u64 n).wf = true) : ∃ m : Nat, n = (m : Int) ∧ m < 18446744073709551616 := by
  have hx : 0 ≤ n ∧ n ≤ 18446744073709551615 := by simpa [Lit.wf, IntKind.min, IntKind.max, IntKind.signed, IntKind.bits] using h
  exact ⟨n.toNat, by omega, by omega⟩
theorem u32_of {n : Int} (h : (Lit.int .u32 n).wf = true) : ∃ m : Nat, n = (m : Int) ∧ m < 4294967296 := by
  have hx : 0 ≤ n ∧ n ≤ 4294967295 := by simpa [Lit.wf, IntKind.min, IntKind.max, IntKind.signed, IntKind.bits] using h
  exact ⟨n.toNat, by omega, by omega⟩
theorem weights_all {H : Type} {P : Program} {e : TypeId} {l : List (DataW H)} {d : DataW H} (hd : d ∈ l) {n : Nat} (hn : n ∈ d.weights P e) : n ∈ DataW.weightsAll P e l := by
  induction l with
  | nil => cases hd
  | cons x r ih =>
    simp only [DataW.weightsAll, List.mem_append]
    rcases List.mem_cons.1 hd with rfl | h
    · exact .inl hn
    · exact .inr (ih h)
theorem weights_at {H : Type} {P : Program} {ts : List TypeId} {ds : List (DataW H)} {j : Nat} {t : TypeId} {d : DataW H} (ht : ts[j]? = some t) (hd : ds[j]? = some d) {n : Nat} (hn : n ∈ d.weights P t) : n ∈ DataW.weightsEach P ts ds :=
  DataW.weights_mem_each ht hd n hn
theorem trodAll_below {H : Type} {enc : TypeId × Value → H} {W W' : World} (hb : Below W.heap.size W W') {ts : List TypeId} {vs : List Value} {ds : List (DataW H)} {ps : List MemPlace} (h : DataW.TrodAll enc Try.prog W 0 (fun _ => true) true ts vs ds ps) (hlt : ∀ x ∈ ps, x.block < W.heap.size)
    (ht : ∀ t ∈ ts, Try.prog.readableRec t = true ∧ t < Try.prog.types.size) (hl : laidOutB Try.prog = true) : DataW.TrodAll enc Try.prog W' 0 (fun b => decide (b < W.heap.size)) true ts vs ds ps := by
  induction ts generalizing vs ds ps with
  | nil =>
    obtain ⟨rfl, rfl, rfl⟩ := trodAll_nil h
    exact trodAll_mk0
  | cons t ts ih =>
    obtain ⟨v, vs', d, ds', p, p', rfl, rfl, rfl, h0, r0⟩ := trodAll_cons h
    obtain ⟨h1, h2⟩ := ht t (by simp)
    exact trodAll_cons_mk (Below.trod hl h1 h2 h0 hb fun x hx => hlt x (List.mem_append_left _ hx)) (ih r0 (fun x hx => hlt x (List.mem_append_right _ hx)) fun u hu => ht u (by simp [hu]))
/-- a law's row: true, and the arguments read as they did -/
theorem law_post {H : Type} {enc : TypeId × Value → H} {f : Func} {s : ChangeSpec} {W W' : World} {args : Array Value} {ds : List (DataW H)} {before : List MemPlace} (hW : DataW.Whole enc Try.prog f.params.toList s.vars false W args.toList ds [] before) (hv : s.vars = [])
    (hr : (s.fn H (ds ++ [])).results = [.lit (.bool true)]) (ha : (s.fn H (ds ++ [])).args = ds) (hvs : (s.fn H (ds ++ [])).vars = []) (hft : f.resultTypes = #[4]) (ht : ∀ t ∈ f.params.toList, Try.prog.readableRec t = true ∧ t < Try.prog.types.size) (hl : laidOutB Try.prog = true)
    (hb : Below W.heap.size W W') : s.post enc Try.prog f false true false false W args (.bool true) W' := by
  have hlt : ∀ p ∈ before, p.block < W.heap.size := fun p hp => hW.lt p hp
  have hW' := hW
  obtain ⟨p, q, hA, hV, rfl, hfz, _⟩ := hW
  rw [hv] at hV
  obtain ⟨_, rfl⟩ := trodVars_none hV
  rw [List.append_nil] at hlt hW'
  refine ⟨ds, [], p, [], p, [], hW', ?_, ?_, ?_, World.keptBut_mono (fun x hx => ⟨hx, .inr (.inl hx)⟩) (hb.frame (· ∈ p)), fun h => by cases h⟩
  · rw [hr, hft]; exact trodAll_cons_mk (shut_bool Try.underlying4 _) trodAll_mk0
  · rw [ha]; exact trodAll_below hb hA hlt ht hl
  · rw [hv, hvs]; rfl

section
variable {H : Type} {enc : TypeId × Value → H} {W : World} {base : Nat} {spare : Nat → Bool} {held : Bool}
/-- every weight is within the reach -/
def Sized (x : DataW H) (t : TypeId) : Prop := ∀ n ∈ x.weights Try.prog t, n ≤ 140737488355328

end
end Go.Proofs.Ytgaanndidcdbpaa
/- Opening of a row's argument: a slice, each element opened by a law of its own. For any seat. -/
namespace Go.Proofs.Ytgaanndidcdbpaa
open Go.ChangeShapes Go.WideShapes Go.ChangeAt Go.RowKit Go.Deep Go.Joins
section
variable {H : Type} {enc : TypeId × Value → H} {W : World} {base : Nat} {spare : Nat → Bool} {held : Bool}
theorem open_sl {T : Type} (d0 : T) {t e : TypeId} (ht : Try.prog.underlying t = some (.slice e)) (k : Nat) (hk : Try.prog.cellsOf e = k) (hk0 : 0 < k) (f : T → Nat → Value) (Q : DataW H → T → Prop)
    (hop : ∀ {n' : Nat} {cs : List Value} {y : DataW H × List MemPlace}, cs.length = k → DataW.trod enc Try.prog W base spare held n' e cs = some y → ∃ s, (∀ j, j < k → cs[j]? = some (f s j)) ∧ Q y.1 s)
    {fuel : Nat} {v : Value} {x : DataW H × List MemPlace} (h : DataW.trod enc Try.prog W base spare held fuel t [v] = some x) :
    ∃ l : List T, IsSl W (NB []) k v l.length (fun i j => f (l.getD i d0) j) ∧ ∀ i, i < l.length → ∃ D, Q D (l.getD i d0) ∧ ∀ q ∈ D.weights Try.prog e, q ∈ x.1.weights Try.prog t := by
  rcases open_slice ht h with ⟨ev, rfl⟩ | ⟨a, len, cap, m, n, D, Pl, ev, hb, hl, hm, hmm, rfl, hi⟩
  · obtain rfl : v = .slice none 0 0 := by simpa using ev
    exact ⟨[], IsSl.nil, fun i hi => absurd hi (by simp)⟩
  · obtain rfl : v = .slice (some a) len cap := by simpa using ev
    have hlm : len ≤ m := by rw [hmm]; split <;> omega
    rw [hk] at hi
    have hex : ∀ i, ∃ s : T, i < len → (∀ j, j < k → W.cell? ((a.add (i * k)).add j) = some (f s j)) ∧ Q (D i) s := fun i => by
      by_cases hil : i < len
      · obtain ⟨cs', hc, ht'⟩ := hi i (by omega)
        obtain ⟨_, hcl, hat⟩ := World.cells?_some hc
        obtain ⟨s, h1, h2⟩ := hop hcl ht'
        exact ⟨s, fun _ => ⟨fun j hj => by rw [hat j hj, h1 j hj], h2⟩⟩
      · exact ⟨d0, fun h => absurd h hil⟩
    let B : Nat → T := fun i => (hex i).choose
    have hB : ∀ i, i < len → (∀ j, j < k → W.cell? ((a.add (i * k)).add j) = some (f (B i) j)) ∧ Q (D i) (B i) := fun i => (hex i).choose_spec
    have hget : ∀ i, i < len → ((List.range len).map B).getD i d0 = B i := fun i hi' => by
      rw [List.getD_eq_getElem?_getD, List.getElem?_map, List.getElem?_range hi']; rfl
    refine ⟨(List.range len).map B, ⟨some a, cap, by simp, by simpa using hl, by simpa [maxLen] using hm, fun hn => ?_⟩, fun i hi' => ?_⟩
    · simp at hn
      have h0 := (hB 0 hn).1 0 hk0
      rw [Nat.zero_mul, addr_add0, addr_add0] at h0
      obtain ⟨b, off, sp⟩ := a
      obtain rfl : sp = none := spot_none h0
      refine ⟨b, off, rfl, nb0 _, fun i j hi' hj => ?_⟩
      simp at hi'
      have h1 := (hB i hi').1 j hj
      rw [add_mk, add_mk] at h1
      show _ = some (f (((List.range len).map B).getD i d0) j)
      rw [hget i hi', h1]
    · simp at hi'
      refine ⟨D i, by rw [hget i hi']; exact (hB i hi').2, fun q hq => ?_⟩
      simp only [DataW.weights, ht]
      refine List.mem_cons_of_mem _ (List.mem_append_left _ ?_)
      exact weights_all (List.mem_map.2 ⟨i, List.mem_range.2 hi', rfl⟩) hq
end
end Go.Proofs.Ytgaanndidcdbpaa
/- Opening of a row's arguments: ints, polynomials, steps. -/
namespace Go.Proofs.Ytgaanndidcdbpaa
open Go.ChangeShapes Go.WideShapes Go.ChangeAt Go.RowKit Go.Deep Go.Joins
theorem Try.cells_int : Try.prog.cellsOf 3 = 1 := by kernel_rfl
theorem Try.cells_u64 : Try.prog.cellsOf 23 = 1 := by kernel_rfl
theorem Try.cells_u8 : Try.prog.cellsOf 5 = 1 := by kernel_rfl
theorem Try.cells_u64s : Try.prog.cellsOf 35 = 1 := by kernel_rfl
theorem Try.cells_step : Try.prog.cellsOf 37 = 2 := by kernel_rfl
theorem i64_of {n : Int} (h : (Lit.int .i64 n).wf = true) : W64 n := by
  have hx : -9223372036854775808 ≤ n ∧ n ≤ 9223372036854775807 := by simpa [Lit.wf, IntKind.min, IntKind.max, IntKind.signed, IntKind.bits] using h
  exact hx
theorem u8_of {z : Int} (h : (Lit.int .u8 z).wf = true) : ∃ m : Nat, z = (m : Int) ∧ m < 256 := by
  have hx : 0 ≤ z ∧ z ≤ 255 := by simpa [Lit.wf, IntKind.min, IntKind.max, IntKind.signed, IntKind.bits] using h
  exact ⟨z.toNat, by omega, by omega⟩
section
variable {H : Type} {enc : TypeId × Value → H} {W : World} {base : Nat} {spare : Nat → Bool} {held : Bool}
theorem open_u64c {n' : Nat} {c0 : Value} {x : DataW H × List MemPlace} (h : DataW.trod enc Try.prog W base spare held n' 23 [c0] = some x) : ∃ m : Nat, c0 = .int .u64 (m : Int) ∧ m < 18446744073709551616 := by
  obtain ⟨k0, hk0, -, hw0⟩ := DataW.trod_int Try.underlying23 h
  obtain ⟨m0, e0, h1⟩ := u64_of hw0
  exact ⟨m0, by rw [← e0]; simpa using hk0, h1⟩
theorem open_intc {n' : Nat} {c0 : Value} {x : DataW H × List MemPlace} (h : DataW.trod enc Try.prog W base spare held n' 3 [c0] = some x) : ∃ z : Int, c0 = .int .i64 z ∧ W64 z := by
  obtain ⟨k0, hk0, -, hw0⟩ := DataW.trod_int Try.underlying3 h
  exact ⟨k0, by simpa using hk0, i64_of hw0⟩
theorem open_u8c {n' : Nat} {c0 : Value} {x : DataW H × List MemPlace} (h : DataW.trod enc Try.prog W base spare held n' 5 [c0] = some x) : ∃ m : Nat, c0 = .int .u8 (m : Int) ∧ m < 256 := by
  obtain ⟨k0, hk0, -, hw0⟩ := DataW.trod_int Try.underlying5 h
  obtain ⟨m0, e0, h1⟩ := u8_of hw0
  exact ⟨m0, by rw [← e0]; simpa using hk0, h1⟩
theorem one_of {cs : List Value} (h : cs.length = 1) : ∃ c, cs = [c] := by
  match cs, h with
  | [c], _ => exact ⟨c, rfl⟩
theorem two_of {cs : List Value} (h : cs.length = 2) : ∃ c d, cs = [c, d] := by
  match cs, h with
  | [c, d], _ => exact ⟨c, d, rfl⟩
theorem open_intL {fuel : Nat} {v : Value} {x : DataW H × List MemPlace} (h : DataW.trod enc Try.prog W base spare held fuel 22 [v] = some x) : ∃ xs : List Int, IsInts W (NB []) v xs ∧ ∀ i, i < xs.length → W64 (nthI xs i) := by
  obtain ⟨l, h1, h2⟩ := open_sl (T := Int) 0 Try.underlying22 1 Try.cells_int (by decide) (fun s _ => .int .i64 s) (fun _ s => W64 s) (fun hl ht => by
    obtain ⟨c, rfl⟩ := one_of hl
    obtain ⟨z, rfl, hz⟩ := open_intc ht
    exact ⟨z, fun j hj => by obtain rfl : j = 0 := by omega
                             rfl, hz⟩) h
  exact ⟨l, h1, fun i hi => by obtain ⟨D, hD, -⟩ := h2 i hi; exact hD⟩
theorem open_u64L {fuel : Nat} {v : Value} {x : DataW H × List MemPlace} (h : DataW.trod enc Try.prog W base spare held fuel 35 [v] = some x) : ∃ xs : List Nat, IsU64 W (NB []) v xs ∧ U64s xs := by
  obtain ⟨l, h1, h2⟩ := open_sl (T := Nat) 0 Try.underlying35 1 Try.cells_u64 (by decide) (fun s _ => .int .u64 (s : Int)) (fun _ s => s < 18446744073709551616) (fun hl ht => by
    obtain ⟨c, rfl⟩ := one_of hl
    obtain ⟨z, rfl, hz⟩ := open_u64c ht
    exact ⟨z, fun j hj => by obtain rfl : j = 0 := by omega
                             rfl, hz⟩) h
  refine ⟨l, h1, fun y hy => ?_⟩
  obtain ⟨i, hi, rfl⟩ := List.getElem_of_mem hy
  obtain ⟨D, hD, -⟩ := h2 i hi
  rwa [List.getD_eq_getElem?_getD, List.getElem?_eq_getElem hi] at hD
theorem open_u8L {fuel : Nat} {v : Value} {x : DataW H × List MemPlace} (h : DataW.trod enc Try.prog W base spare held fuel 45 [v] = some x) : ∃ xs : List Nat, IsSl W (NB []) 1 v xs.length (fun i _ => .int .u8 ((xs.getD i 0 : Nat) : Int)) ∧ ∀ i, i < xs.length → xs.getD i 0 < 256 := by
  obtain ⟨l, h1, h2⟩ := open_sl (T := Nat) 0 Try.underlying45 1 Try.cells_u8 (by decide) (fun s _ => .int .u8 (s : Int)) (fun _ s => s < 256) (fun hl ht => by
    obtain ⟨c, rfl⟩ := one_of hl
    obtain ⟨z, rfl, hz⟩ := open_u8c ht
    exact ⟨z, fun j hj => by obtain rfl : j = 0 := by omega
                             rfl, hz⟩) h
  exact ⟨l, h1, fun i hi => by obtain ⟨D, hD, -⟩ := h2 i hi; exact hD⟩
theorem open_pol {fuel : Nat} {v : Value} {x : DataW H × List MemPlace} (h : DataW.trod enc Try.prog W base spare held fuel 24 [v] = some x) : ∃ ps : List (List Nat), IsPol W (NB []) v ps ∧ ∀ i, i < ps.length → U64s (polN ps i) := by
  obtain ⟨l, h1, h2⟩ := open_sl (T := Value × List Nat) (.nilIface, []) Try.underlying24 1 Try.cells_u64s (by decide) (fun s _ => s.1) (fun _ s => IsU64 W (NB []) s.1 s.2 ∧ U64s s.2) (fun hl ht => by
    obtain ⟨c, rfl⟩ := one_of hl
    obtain ⟨z, hz, hu⟩ := open_u64L ht
    exact ⟨(c, z), fun j hj => by obtain rfl : j = 0 := by omega
                                  rfl, hz, hu⟩) h
  have e : ∀ i, i < l.length → polN (l.map Prod.snd) i = (l.getD i (.nilIface, [])).2 := fun i hi => by
    unfold polN
    rw [List.getD_eq_getElem?_getD, List.getD_eq_getElem?_getD, List.getElem?_map, List.getElem?_eq_getElem hi]; rfl
  refine ⟨l.map Prod.snd, ⟨fun i => (l.getD i (.nilIface, [])).1, by rw [List.length_map]; exact h1, fun i hi => ?_⟩, fun i hi => ?_⟩
  · rw [List.length_map] at hi
    rw [e i hi]; obtain ⟨D, hD, -⟩ := h2 i hi; exact hD.1
  · rw [List.length_map] at hi
    rw [e i hi]; obtain ⟨D, hD, -⟩ := h2 i hi; exact hD.2
def stC (s : Nat × Nat) (j : Nat) : Value := if j = 0 then .int .u8 (s.1 : Int) else .int .u8 (s.2 : Int)
theorem open_step2 {n' : Nat} {c0 c1 : Value} {x : DataW H × List MemPlace} (h : DataW.trod enc Try.prog W base spare held n' 37 [c0, c1] = some x) :
    ∃ s : Nat × Nat, c0 = .int .u8 (s.1 : Int) ∧ c1 = .int .u8 (s.2 : Int) ∧ s.1 < 256 ∧ s.2 < 256 := by
  obtain ⟨xs, n', -, hx, -, hxl, hf⟩ := DataW.trod_struct Try.underlying37 h
  have h0 : DataW.trod enc Try.prog W base spare held n' 5 (([c0, c1].drop 0).take (Try.prog.cellsOf 5)) = xs[0]? := hf 0 _ rfl
  have h1 : DataW.trod enc Try.prog W base spare held n' 5 (([c0, c1].drop 1).take (Try.prog.cellsOf 5)) = xs[1]? := hf 1 _ rfl
  rw [Try.cells_u8] at h0 h1
  simp only [List.drop_zero, List.drop_succ_cons, List.take_succ_cons, List.take_zero] at h0 h1
  match xs, hxl with
  | [x0, x1], _ =>
    obtain ⟨m0, e0, l0⟩ := open_u8c h0
    obtain ⟨m1, e1, l1⟩ := open_u8c h1
    exact ⟨(m0, m1), e0, e1, l0, l1⟩
set_option maxRecDepth 100000 in
theorem open_step {r : Reach} {b0 : Nat} {v : Value} {d : DataW H} {p : List MemPlace} (hv : Value.okWide Try.prog W r b0 37 v) (h : DataW.Trod enc Try.prog W base spare held 37 v d p) : ∃ s : Nat × Nat, v = .agg #[.int .u8 (s.1 : Int), .int .u8 (s.2 : Int)] ∧ s.1 < 256 ∧ s.2 < 256 := by
  obtain ⟨u, s, y, t, nn, rfl, rfl, rfl, g, k⟩ := open_agg2 Try.underlying37 (by kernel_rfl) Try.cells_step hv h
  obtain ⟨m0, rfl, l0⟩ := open_u8c g
  obtain ⟨m1, rfl, l1⟩ := open_u8c k
  exact ⟨(m0, m1), rfl, l0, l1⟩
set_option maxRecDepth 100000 in
theorem open_stepL {fuel : Nat} {v : Value} {x : DataW H × List MemPlace} (h : DataW.trod enc Try.prog W base spare held fuel 25 [v] = some x) : ∃ ss : List (Nat × Nat), IsSl W (NB []) 2 v ss.length (fun i j => stC (ss.getD i (0, 0)) j) ∧ ∀ i, i < ss.length → (ss.getD i (0, 0)).1 < 256 ∧ (ss.getD i (0, 0)).2 < 256 := by
  obtain ⟨l, h1, h2⟩ := open_sl (T := Nat × Nat) (0, 0) Try.underlying25 2 Try.cells_step (by decide) stC (fun _ s => s.1 < 256 ∧ s.2 < 256) (fun hl ht => by
    obtain ⟨c, d, rfl⟩ := two_of hl
    obtain ⟨z, rfl, rfl, hz⟩ := open_step2 ht
    exact ⟨z, fun j hj => by
      rcases (by omega : j = 0 ∨ j = 1) with rfl | rfl <;> rfl, hz⟩) h
  exact ⟨l, h1, fun i hi => by obtain ⟨D, hD, -⟩ := h2 i hi; exact hD⟩
end
end Go.Proofs.Ytgaanndidcdbpaa
