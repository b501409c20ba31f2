import Derived.Test.YtocjhepiooljpaaA14
import Derived.ProofKit
import Derived.OpenShut
import Derived.Deep.Slices
import Derived.Deep.Fields
import Derived.ChangeSame
import Derived.Lib.SmallJoins
import Derived.Carry
import Derived.SizedLaws
namespace Go.Proofs.Ytocjhepiooljpaa
open Go.ChangeShapes Go.WideShapes Go.ChangeAt Go.RowKit Go.Deep Go.Joins

theorem spot_none {w : World} {a : Addr} {v : Value} (h : w.cell? a = some v) : a.spot = none := by
  unfold World.cell? at h
  split at h
  · cases hs : a.spot with
    | none => rfl
    | some k => simp [hs] at h
  · cases h
theorem add_mk (b off i : Nat) : (⟨b, off, none⟩ : Addr).add i = ⟨b, off + i, none⟩ := by
  unfold Addr.add
  split
  · simp_all
  · rfl
theorem byt_of {n : Int} (h : (Lit.int .u8 n).wf = true) : byt (UInt8.ofNat n.toNat) = .int .u8 n := by
  have hx : 0 ≤ n ∧ n ≤ 255 := by simpa [Lit.wf, IntKind.min, IntKind.max, IntKind.signed, IntKind.bits] using h
  unfold byt
  congr 1
  rw [UInt8.toNat_ofNat']
  omega
theorem nb0 (b : Nat) : NB [] b := by simp [NB]
theorem Try.cells5 : Try.prog.cellsOf 5 = 1 := by kernel_rfl
theorem Try.cells35 : Try.prog.cellsOf 35 = 1 := by kernel_rfl
theorem Try.cells53 : Try.prog.cellsOf 76 = 2 := by kernel_rfl
theorem Try.cells3 : Try.prog.cellsOf 3 = 1 := by kernel_rfl
theorem Try.bytes35 : Try.prog.bytesOf 35 = 24 := by kernel_rfl
theorem Try.bytes5 : Try.prog.bytesOf 5 = 1 := by kernel_rfl

theorem weights_all {H : Type} {P : Program} {e : TypeId} {l : List (DataW H)} {d : DataW H} (hd : d ∈ l) {n : Nat} (hn : n ∈ d.weights P e) : n ∈ DataW.weightsAll P e l := by
  induction l with
  | nil => cases hd
  | cons x r ih =>
    simp only [DataW.weightsAll, List.mem_append]
    rcases List.mem_cons.1 hd with rfl | h
    · exact .inl hn
    · exact .inr (ih h)
theorem weights_at {H : Type} {P : Program} {ts : List TypeId} {ds : List (DataW H)} {j : Nat} {t : TypeId} {d : DataW H} (ht : ts[j]? = some t) (hd : ds[j]? = some d) {n : Nat} (hn : n ∈ d.weights P t) : n ∈ DataW.weightsEach P ts ds :=
  DataW.weights_mem_each ht hd n hn
theorem trodAll_below {H : Type} {enc : TypeId × Value → H} {W W' : World} (hb : Below W.heap.size W W') {ts : List TypeId} {vs : List Value} {ds : List (DataW H)} {ps : List MemPlace} (h : DataW.TrodAll enc Try.prog W 0 (fun _ => true) true ts vs ds ps) (hlt : ∀ x ∈ ps, x.block < W.heap.size)
    (ht : ∀ t ∈ ts, Try.prog.readableRec t = true ∧ t < Try.prog.types.size) (hl : laidOutB Try.prog = true) : DataW.TrodAll enc Try.prog W' 0 (fun b => decide (b < W.heap.size)) true ts vs ds ps := by
  induction ts generalizing vs ds ps with
  | nil =>
    obtain ⟨rfl, rfl, rfl⟩ := trodAll_nil h
    exact trodAll_mk0
  | cons t ts ih =>
    obtain ⟨v, vs', d, ds', p, p', rfl, rfl, rfl, h0, r0⟩ := trodAll_cons h
    obtain ⟨h1, h2⟩ := ht t (by simp)
    exact trodAll_cons_mk (Below.trod hl h1 h2 h0 hb fun x hx => hlt x (List.mem_append_left _ hx)) (ih r0 (fun x hx => hlt x (List.mem_append_right _ hx)) fun u hu => ht u (by simp [hu]))
/-- a law's row: true, and the arguments read as they did -/
theorem law_post {H : Type} {enc : TypeId × Value → H} {f : Func} {s : ChangeSpec} {W W' : World} {args : Array Value} {ds : List (DataW H)} {before : List MemPlace} (hW : DataW.Whole enc Try.prog f.params.toList s.vars false W args.toList ds [] before) (hv : s.vars = [])
    (hr : (s.fn H (ds ++ [])).results = [.lit (.bool true)]) (ha : (s.fn H (ds ++ [])).args = ds) (hvs : (s.fn H (ds ++ [])).vars = []) (hft : f.resultTypes = #[4]) (ht : ∀ t ∈ f.params.toList, Try.prog.readableRec t = true ∧ t < Try.prog.types.size) (hl : laidOutB Try.prog = true)
    (hb : Below W.heap.size W W') : s.post enc Try.prog f false true false false W args (.bool true) W' := by
  have hlt : ∀ p ∈ before, p.block < W.heap.size := fun p hp => hW.lt p hp
  have hW' := hW
  obtain ⟨p, q, hA, hV, rfl, hfz, _⟩ := hW
  rw [hv] at hV
  obtain ⟨_, rfl⟩ := trodVars_none hV
  rw [List.append_nil] at hlt hW'
  refine ⟨ds, [], p, [], p, [], hW', ?_, ?_, ?_, World.keptBut_mono (fun x hx => ⟨hx, .inr (.inl hx)⟩) (hb.frame (· ∈ p)), fun h => by cases h⟩
  · rw [hr, hft]; exact trodAll_cons_mk (shut_bool Try.underlying4 _) trodAll_mk0
  · rw [ha]; exact trodAll_below hb hA hlt ht hl
  · rw [hv, hvs]; rfl

namespace bulks
theorem one_le {H : Type} (d : DataW H) : 1 ≤ Rows.uptoBulk d := by
  cases d with
  | lit l => cases l <;> simp [Rows.uptoBulk]
  | nil => simp [Rows.uptoBulk]
  | ptr d => simp [Rows.uptoBulk]
  | slice elems spare => simp [Rows.uptoBulk]
  | agg parts => simp [Rows.uptoBulk]
  | iface t d => simp [Rows.uptoBulk]
  | map entries => simp [Rows.uptoBulk]
  | held h => simp [Rows.uptoBulk]
theorem part_le {H : Type} {d : DataW H} {l : List (DataW H)} (h : d ∈ l) : Rows.uptoBulk d ≤ Rows.uptoBulkAll l := by
  induction l with
  | nil => cases h
  | cons x r ih =>
    simp only [Rows.uptoBulkAll]
    cases List.mem_cons.1 h with
    | inl e => subst e; omega
    | inr e => have := ih e; omega
theorem length_le {H : Type} (l : List (DataW H)) : l.length ≤ Rows.uptoBulkAll l := by
  induction l with
  | nil => simp [Rows.uptoBulkAll]
  | cons x r ih => have := one_le x; simp only [Rows.uptoBulkAll, List.length_cons]; omega
theorem slice_le {H : Type} (elems spare : List (DataW H)) : elems.length + spare.length + 1 ≤ Rows.uptoBulk (.slice elems spare) := by
  have h1 := length_le elems
  have h2 := length_le spare
  simp only [Rows.uptoBulk]
  omega
theorem bound {H : Type} {l : List (DataW H)} (hk : Rows.uptoSmall H l = true) : Rows.uptoBulkAll l ≤ 1048576 := by
  simpa [Rows.uptoSmall] using hk
/-- the bulk of records is at least their lengths -/
theorem rows_le {H : Type} (D : Nat → DataW H) (B : Nat → List UInt8) : ∀ (l : List Nat), (∀ i ∈ l, (B i).length + 1 ≤ Rows.uptoBulk (D i)) → ((l.map B).map fun b => b.length + 1).sum ≤ Rows.uptoBulkAll (l.map D)
  | [], _ => Nat.zero_le _
  | i :: r, h => by
    have h1 := h i List.mem_cons_self
    have h2 := rows_le D B r fun j hj => h j (List.mem_cons_of_mem _ hj)
    simp only [List.map_cons, List.sum_cons, Rows.uptoBulkAll]
    omega
theorem used_le : ∀ (rs : List (List UInt8)), used rs ≤ (rs.map fun b => b.length + 1).sum
  | [] => Nat.zero_le _
  | b :: r => by
    have h1 := secs_le b.length
    have h2 := used_le r
    rw [used_cons]
    simp only [List.map_cons, List.sum_cons]
    omega
theorem len_le : ∀ (rs : List (List UInt8)) (i : Nat) (h : i < rs.length), (rs[i]).length + 1 ≤ (rs.map fun b => b.length + 1).sum
  | b :: r, 0, _ => by simp
  | b :: r, i + 1, h => by
    have := len_le r i (by simpa using h)
    simp only [List.map_cons, List.sum_cons, List.getElem_cons_succ]
    omega
theorem cnt_le : ∀ (rs : List (List UInt8)), rs.length ≤ (rs.map fun b => b.length + 1).sum
  | [] => Nat.zero_le _
  | b :: r => by
    have := cnt_le r
    simp only [List.map_cons, List.sum_cons, List.length_cons]
    omega
theorem fit {rs : List (List UInt8)} (h : (rs.map fun b => b.length + 1).sum ≤ 1048576) : FitR rs ∧ used rs ≤ 1048576 := by
  have h1 := used_le rs
  have h2 := cnt_le rs
  exact ⟨⟨by omega, fun i hi => by have := len_le rs i hi; omega⟩, by omega⟩
end bulks
section
variable {H : Type} {enc : TypeId × Value → H} {W : World} {base : Nat} {spare : Nat → Bool} {held : Bool}
/-- every weight is within the reach -/
def Sized (x : DataW H) (t : TypeId) : Prop := ∀ n ∈ x.weights Try.prog t, n ≤ 140737488351232

theorem IsBytes.nil {w : World} {M : Nat → Prop} : IsBytes w M (.slice none 0 0) [] := ⟨none, 0, rfl, Nat.le_refl _, by omega, fun h => absurd h (by simp)⟩
theorem open_bytes {fuel : Nat} {v : Value} {x : DataW H × List MemPlace} (h : DataW.trod enc Try.prog W base spare held fuel 35 [v] = some x) :
    ∃ bs : List UInt8, IsBytes W (NB []) v bs ∧ (Sized x.1 35 → bs.length ≤ 140737488355328) ∧ bs.length + 1 ≤ Rows.uptoBulk x.1 := by
  rcases open_ints Try.underlying35 Try.underlying5 Try.cells5 h with ⟨e, rfl⟩ | ⟨a, len, cap, zs, e, hb, hl, hm, hz, rfl, hc, hw⟩
  · obtain rfl : v = .slice none 0 0 := by simpa using e
    exact ⟨[], IsBytes.nil, fun _ => by simp, bulks.one_le _⟩
  · obtain rfl : v = .slice (some a) len cap := by simpa using e
    have hlz : len ≤ zs.length := by rw [hz]; split <;> omega
    refine ⟨(zs.take len).map fun n => UInt8.ofNat n.toNat, ⟨some a, cap, by simp [Nat.min_eq_left hlz], by simp; omega, by simpa [maxLen] using hm, fun hn => ?_⟩, fun hs => ?_, ?_⟩
    · simp [Nat.min_eq_left hlz] at hn
      have h0 := hc 0 (by omega)
      rw [addr_add0] at h0
      obtain ⟨b, off, sp⟩ := a
      obtain rfl : sp = none := spot_none h0
      refine ⟨b, off, rfl, nb0 _, fun i j hi hj => ?_⟩
      simp [Nat.min_eq_left hlz] at hi
      obtain rfl : j = 0 := by omega
      have h1 := hc i (by omega)
      rw [add_mk] at h1
      rw [Nat.mul_one, Nat.add_zero, h1]
      have hzi : i < zs.length := by omega
      simp only [List.getD_eq_getElem?_getD, List.getElem?_map, List.getElem?_take, if_pos hi, List.getElem?_eq_getElem hzi, Option.map_some, Option.getD_some]
      rw [byt_of (hw _ (List.getElem_mem hzi))]
    · have := hs ((lits .u8 (zs.take len) : List (DataW H)).length * 1 + (lits .u8 (zs.drop len) : List (DataW H)).length * 1) (by
        simp only [DataW.weights, Try.underlying35, Try.bytes5]
        rw [Nat.mul_one, Nat.mul_one, Nat.mul_one]
        simp)
      simp [lits] at this
      simp
      omega
    · have h9 := bulks.slice_le (lits .u8 (zs.take len) : List (DataW H)) (lits .u8 (zs.drop len))
      have h8 : (lits .u8 (zs.take len) : List (DataW H)).length = ((zs.take len).map fun n => UInt8.ofNat n.toNat).length := by simp [lits]
      rw [← h8]
      dsimp only
      omega

theorem open_mat {fuel : Nat} {v : Value} {x : DataW H × List MemPlace} (h : DataW.trod enc Try.prog W base spare held fuel 22 [v] = some x) :
    ∃ ss : List (List UInt8), IsMat W (NB []) v ss ∧ (Sized x.1 22 → ∀ (i : Nat) (hi : i < ss.length), (ss[i]).length ≤ 140737488355328) ∧ (Sized x.1 22 → ss.length * 24 ≤ 140737488351232) ∧ (ss.map fun b => b.length + 1).sum ≤ Rows.uptoBulk x.1 := by
  rcases open_slice Try.underlying22 h with ⟨e, rfl⟩ | ⟨a, len, cap, m, n, D, Pl, e, hb, hl, hm, hmm, rfl, hi⟩
  · obtain rfl : v = .slice none 0 0 := by simpa using e
    exact ⟨[], IsMat.nil, fun _ i hi => absurd hi (by simp), fun _ => by simp, by simp⟩
  · obtain rfl : v = .slice (some a) len cap := by simpa using e
    have hlm : len ≤ m := by rw [hmm]; split <;> omega
    rw [Try.cells35] at hi
    have hex : ∀ i, ∃ (u : Value) (bs : List UInt8), i < len → W.cell? (a.add i) = some u ∧ IsBytes W (NB []) u bs ∧ (Sized (D i) 35 → bs.length ≤ 140737488355328) ∧ bs.length + 1 ≤ Rows.uptoBulk (D i) := fun i => by
      by_cases hil : i < len
      · obtain ⟨cs', hc, ht⟩ := hi i (by omega)
        obtain ⟨_, hcl, hat⟩ := World.cells?_some hc
        obtain ⟨u, rfl⟩ : ∃ u, cs' = [u] := by
          match cs', hcl with
          | [u], _ => exact ⟨u, rfl⟩
        obtain ⟨bs, h1, h2, h3⟩ := open_bytes ht
        have h0 := hat 0 (by omega)
        rw [addr_add0, Nat.mul_one] at h0
        exact ⟨u, bs, fun _ => ⟨by simpa using h0, h1, h2, h3⟩⟩
      · exact ⟨.nilIface, [], fun h => absurd h hil⟩
    let U : Nat → Value := fun i => (hex i).choose
    let B : Nat → List UInt8 := fun i => (hex i).choose_spec.choose
    have hUB : ∀ i, i < len → W.cell? (a.add i) = some (U i) ∧ IsBytes W (NB []) (U i) (B i) ∧ (Sized (D i) 35 → (B i).length ≤ 140737488355328) ∧ (B i).length + 1 ≤ Rows.uptoBulk (D i) := fun i => (hex i).choose_spec.choose_spec
    refine ⟨(List.range len).map B, ⟨some a, cap, by simp, by simpa using hl, by simpa [maxLen] using hm, U, fun hn => ?_, fun i hi' => ?_⟩, fun hs i hi' => ?_, fun hs => ?_, ?_⟩
    · simp at hn
      have h0 := (hUB 0 hn).1
      rw [addr_add0] at h0
      obtain ⟨b, off, sp⟩ := a
      obtain rfl : sp = none := spot_none h0
      refine ⟨b, off, rfl, nb0 _, fun i j hi' hj => ?_⟩
      simp at hi'
      obtain rfl : j = 0 := by omega
      have h1 := (hUB i hi').1
      rw [add_mk] at h1
      rw [Nat.mul_one, Nat.add_zero, h1]
    · simp at hi'
      have := (hUB i hi').2.1
      simpa [List.getD_eq_getElem?_getD, hi'] using this
    · simp at hi'
      simp only [List.getElem_map, List.getElem_range]
      refine (hUB i hi').2.2.1 fun q hq => hs q ?_
      simp only [DataW.weights, Try.underlying22]
      refine List.mem_cons_of_mem _ (List.mem_append_left _ ?_)
      exact weights_all (List.mem_map.2 ⟨i, List.mem_range.2 hi', rfl⟩) hq
    · have := hs _ (by
        simp only [DataW.weights, Try.underlying22]
        exact List.mem_cons_self)
      simp at this
      simp
      rw [Try.bytes35] at this
      omega
    · have h9 := bulks.rows_le D B (List.range len) fun i hi => (hUB i (List.mem_range.1 hi)).2.2.2
      simp only [Rows.uptoBulk]
      omega

theorem open_wrs {fuel : Nat} {v : Value} {x : DataW H × List MemPlace} (h : DataW.trod enc Try.prog W base spare held fuel 23 [v] = some x) :
    ∃ ps : List Wr, IsWrs W (NB []) v ps ∧ (Sized x.1 23 → ∀ (i : Nat) (hi : i < ps.length), (ps[i]).data.length ≤ 140737488355328) := by
  rcases open_slice Try.underlying23 h with ⟨e, rfl⟩ | ⟨a, len, cap, m, n, D, Pl, e, hb, hl, hm, hmm, rfl, hi⟩
  · obtain rfl : v = .slice none 0 0 := by simpa using e
    exact ⟨[], IsWrs.nil, fun _ i hi => absurd hi (by simp)⟩
  · obtain rfl : v = .slice (some a) len cap := by simpa using e
    have hlm : len ≤ m := by rw [hmm]; split <;> omega
    rw [Try.cells53] at hi
    have hex : ∀ i, ∃ (u : Value) (y : Wr), i < len → W.cell? (a.add (i * 2)) = some (.int .i64 y.pos) ∧ W.cell? ((a.add (i * 2)).add 1) = some u ∧ IsBytes W (NB []) u y.data ∧ (Sized (D i) 76 → y.data.length ≤ 140737488355328) := fun i => by
      by_cases hil : i < len
      · obtain ⟨cs', hc, ht⟩ := hi i (by omega)
        obtain ⟨_, hcl, hat⟩ := World.cells?_some hc
        obtain ⟨u0, u, rfl⟩ : ∃ u0 u, cs' = [u0, u] := by
          match cs', hcl with
          | [u0, u], _ => exact ⟨u0, u, rfl⟩
        obtain ⟨xs, n', -, hx, -, hxl, hf⟩ := DataW.trod_struct Try.underlying76 ht
        have h0 : DataW.trod enc Try.prog W base spare held n' 3 (([u0, u].drop 0).take (Try.prog.cellsOf 3)) = xs[0]? := hf 0 _ rfl
        have h1 : DataW.trod enc Try.prog W base spare held n' 35 (([u0, u].drop 1).take (Try.prog.cellsOf 35)) = xs[1]? := hf 1 _ rfl
        rw [Try.cells3] at h0
        rw [Try.cells35] at h1
        simp only [List.drop_zero, List.drop_succ_cons, List.take_succ_cons, List.take_zero] at h0 h1
        match xs, hxl with
        | [x0, x1], _ =>
          obtain ⟨k, hk, -, -⟩ := DataW.trod_int Try.underlying3 h0
          obtain rfl : u0 = .int .i64 k := by simpa using hk
          obtain ⟨bs, hb1, hb2, -⟩ := open_bytes h1
          have e0 := hat 0 (by omega)
          have e1 := hat 1 (by omega)
          rw [addr_add0] at e0
          refine ⟨u, ⟨k, bs⟩, fun _ => ⟨by simpa using e0, by simpa using e1, hb1, fun hs => hb2 fun q hq => hs q ?_⟩⟩
          have hD : D i = .agg [x0.1, x1.1] := by have := congrArg Prod.fst hx; simpa using this
          rw [hD]
          simp only [DataW.weights, Try.underlying76]
          exact weights_at (j := 1) rfl rfl hq
      · exact ⟨.nilIface, w0, fun h => absurd h hil⟩
    let U : Nat → Value := fun i => (hex i).choose
    let B : Nat → Wr := fun i => (hex i).choose_spec.choose
    have hUB : ∀ i, i < len → W.cell? (a.add (i * 2)) = some (.int .i64 (B i).pos) ∧ W.cell? ((a.add (i * 2)).add 1) = some (U i) ∧ IsBytes W (NB []) (U i) (B i).data ∧ (Sized (D i) 76 → (B i).data.length ≤ 140737488355328) := fun i => (hex i).choose_spec.choose_spec
    refine ⟨(List.range len).map B, ⟨some a, cap, by simp, by simpa using hl, by simpa [maxLen] using hm, U, fun hn => ?_, fun i hi' => ?_⟩, fun hs i hi' => ?_⟩
    · simp at hn
      have h0 := (hUB 0 hn).1
      rw [Nat.zero_mul, addr_add0] at h0
      obtain ⟨b, off, sp⟩ := a
      obtain rfl : sp = none := spot_none h0
      refine ⟨b, off, rfl, nb0 _, fun i j hi' hj => ?_⟩
      simp at hi'
      obtain ⟨h1, h2, -⟩ := hUB i hi'
      rw [add_mk] at h1 h2
      rw [add_mk] at h2
      have hj' : j = 0 ∨ j = 1 := by omega
      rcases hj' with rfl | rfl
      · rw [Nat.add_zero, h1]; simp [List.getD_eq_getElem?_getD, hi']
      · rw [h2]; simp
    · simp at hi'
      have := (hUB i hi').2.2.1
      simpa [List.getD_eq_getElem?_getD, hi'] using this
    · simp at hi'
      simp only [List.getElem_map, List.getElem_range]
      refine (hUB i hi').2.2.2 fun q hq => hs q ?_
      simp only [DataW.weights, Try.underlying23]
      refine List.mem_cons_of_mem _ (List.mem_append_left _ ?_)
      exact weights_all (List.mem_map.2 ⟨i, List.mem_range.2 hi', rfl⟩) hq

theorem open_disk {r : Reach} {b0 : Nat} {v : Value} {x : DataW H} {p : List MemPlace} (hv : Value.okWide Try.prog W r b0 25 v) (h : DataW.Trod enc Try.prog W base spare held 25 v x p) :
    ∃ d : DiskD, IsDisk W (NB []) v d := by
  obtain ⟨v0, v1, v2, v3, y0, y1, y2, y3, n, rfl, rfl, rfl, h0, h1, h2, h3⟩ := open_agg4 Try.underlying25 (by kernel_rfl) (by kernel_rfl) hv h
  obtain ⟨ss, hs1, hs2, -⟩ := open_mat h0
  obtain ⟨ps, hp1, hp2⟩ := open_wrs h1
  obtain ⟨l, hl, -, -⟩ := DataW.trod_int Try.underlying3 h2
  obtain ⟨b, hb, -⟩ := DataW.trod_bool Try.underlying4 h3
  obtain rfl : v2 = .int .i64 l := by simpa using hl
  obtain rfl : v3 = .bool b := by simpa using hb
  exact ⟨⟨ss, ps, l, b⟩, v0, v1, rfl, hs1, hp1⟩
theorem open_log {r : Reach} {b0 : Nat} {v : Value} {x : DataW H} {p : List MemPlace} (hv : Value.okWide Try.prog W r b0 29 v) (h : DataW.Trod enc Try.prog W base spare held 29 v x p) :
    ∃ l : LogD, IsLog W (NB []) v l ∧ (Sized x 29 → FitR l.recs) ∧ (l.recs.map fun b => b.length + 1).sum ≤ Rows.uptoBulk x := by
  obtain ⟨v0, v1, v2, y0, y1, y2, n, rfl, rfl, rfl, h0, h1, h2⟩ := open_agg3 Try.underlying29 (by kernel_rfl) (by kernel_rfl) hv h
  obtain ⟨l, hl, -, -⟩ := DataW.trod_int Try.underlying3 h0
  obtain ⟨rs, hr1, hr2, hr3, hr4⟩ := open_mat h1
  obtain ⟨s, hs, -, -⟩ := DataW.trod_int Try.underlying3 h2
  obtain rfl : v0 = .int .i64 l := by simpa using hl
  obtain rfl : v2 = .int .i64 s := by simpa using hs
  have hz : Sized (.agg [y0.1, y1.1, y2.1]) 29 → Sized y1.1 22 := fun hs q hq => hs q (by
    simp only [DataW.weights, Try.underlying29]
    exact weights_at (j := 1) rfl rfl hq)
  exact ⟨⟨l, rs, s⟩, ⟨v1, rfl, hr1⟩, fun hs => ⟨hr3 (hz hs), hr2 (hz hs)⟩, by
    simp only [Rows.uptoBulk, Rows.uptoBulkAll]
    show (rs.map fun b => b.length + 1).sum ≤ _
    omega⟩
end
end Go.Proofs.Ytocjhepiooljpaa
