import Derived.Test.YtgaanndidcdbpaaZD
import Derived.OrdersHeld
import Derived.Deep.RegionHeld
import Derived.Test.YtgaanndidcdbpaaZH
import Derived.Test.YtgaanndidcdbpaaZC
import Derived.ArgAppend
import Derived.BigQuiet
/- A region with an operation z that waits for the others: till it comes up a condition on the world holds; what reads no memory may come behind it. For any seat. -/
namespace Go.Proofs.Ytgaanndidcdbpaa
open Go.RowKit
section
variable {P : Program} {ops : Array Oper} {Q : Exit → Act → World → Prop} {md : Region.Mode} {S : World → Prop} {z : Nat}
/-- any order; as long as z has not come up the condition holds -/
def AnyL (P : Program) (md : Region.Mode) (ops : Array Oper) (Q : Exit → Act → World → Prop) (S : World → Prop) (z : Nat) : Nat → Array Bool → Act → World → Prop
  | 0, l, a, w => Region.ready md ops l = [] ∧ Q .normal a w
  | k + 1, l, a, w => (Region.ready md ops l = [] → Q .normal a w) ∧ ∀ j, j ∈ Region.ready md ops l → wpOp P ops Q j (fun a' w' => ((l.setIfInBounds j true).getD z false = false → S w') ∧ AnyL P md ops Q S z k (l.setIfInBounds j true) a' w') a w
theorem AnyL.any : ∀ {k : Nat} {l : Array Bool} {a : Act} {w : World}, AnyL P md ops Q S z k l a w → wpAny P md ops Q k l a w
  | 0, _, _, _, h => h
  | _ + 1, _, _, _, h => ⟨h.1, fun j hj => wpOp_mono (fun _ _ q => AnyL.any q.2) (h.2 j hj)⟩
theorem anyL_begin {id : Nat} {a : Act} {w : World} (hm : P.follows .mixedOrders = true) (hS : S w.drew) (h : S w.drew → AnyL P .any ops Q S z ops.size (Array.replicate ops.size false) a w.drew) : (Code.region id ops true).wp P Q a w :=
  wp_region_any hm (h hS).any
/-- z waits for i -/
def waitsB (md : Region.Mode) (ops : Array Oper) (z i : Nat) : Bool := ((ops[z]?).map fun o => o.after.any fun e => Region.binds md e && e.on == i).getD false
theorem waitsB_spec {i : Nat} {o : Oper} (h : waitsB md ops z i = true) (ho : ops[z]? = some o) : ∃ e ∈ o.after, Region.binds md e = true ∧ e.on = i := by
  unfold waitsB at h
  rw [ho] at h
  simp only [Option.map_some, Option.getD_some, Array.any_eq_true] at h
  obtain ⟨j, hj, e⟩ := h
  rw [Bool.and_eq_true, beq_iff_eq] at e
  exact ⟨_, Array.getElem_mem hj, e.1, e.2⟩
/-- z waits for i, through others -/
def ancB (md : Region.Mode) (ops : Array Oper) (i : Nat) : Nat → Nat → Bool
  | 0, _ => false
  | k + 1, z => waitsB md ops z i || (List.range ops.size).any fun m => waitsB md ops z m && ancB md ops i k m
/-- what has come up: with each operation all that it waited for -/
def ClosedL (md : Region.Mode) (ops : Array Oper) (l : Array Bool) : Prop := ∀ m om, ops[m]? = some om → l.getD m false = true → ∀ e ∈ om.after, Region.binds md e = true → l.getD e.on false = true
def closedB (md : Region.Mode) (ops : Array Oper) (l : Array Bool) : Bool := (List.range ops.size).all fun m => !l.getD m false || ((ops[m]?).map fun o => o.after.all fun e => !Region.binds md e || l.getD e.on false).getD true
theorem closedB_spec {l : Array Bool} (h : closedB md ops l = true) : ClosedL md ops l := by
  intro m om hm hl e he hb
  unfold closedB at h
  rw [List.all_eq_true] at h
  have := h m (List.mem_range.2 (Array.getElem?_eq_some_iff.1 hm).1)
  rw [hl, hm] at this
  simp only [Bool.not_true, Bool.false_or, Option.map_some, Option.getD_some, Array.all_eq_true'] at this
  have := this e he
  rw [hb] at this
  simpa using this
theorem ClosedL.set {l : Array Bool} {j : Nat} (h : ClosedL md ops l) (hj : j ∈ Region.ready md ops l) : ClosedL md ops (l.setIfInBounds j true) := by
  intro m om hm hl e he hb
  by_cases q : j = m
  · subst q
    obtain ⟨-, o, ho, hall⟩ := mem_ready.1 hj
    rw [hm] at ho
    injection ho with ho
    subst ho
    exact getD_set_true (hall e he hb)
  · rw [getD_set_ne false q] at hl
    exact getD_set_true (h m om hm hl e he hb)
theorem ClosedL.anc {l : Array Bool} (h : ClosedL md ops l) {i : Nat} : ∀ {k z : Nat} {o : Oper}, ops[z]? = some o → (∀ e ∈ o.after, Region.binds md e = true → l.getD e.on false = true) → ancB md ops i k z = true → l.getD i false = true
  | 0, _, _, _, _, e => by cases e
  | k + 1, z, o, ho, hl, e => by
    unfold ancB at e
    rw [Bool.or_eq_true, List.any_eq_true] at e
    rcases e with e | ⟨m, hm, e⟩
    · obtain ⟨d, hd, hb, rfl⟩ := waitsB_spec e ho
      exact hl d hd hb
    · rw [Bool.and_eq_true] at e
      obtain ⟨d, hd, hb, rfl⟩ := waitsB_spec e.1 ho
      have hom := Array.getElem?_eq_getElem (xs := ops) (List.mem_range.1 hm)
      exact h.anc hom (h _ _ hom (hl d hd hb)) e.2
theorem unl {l : Array Bool} {i : Nat} (h : i ∈ Region.ready md ops l) : l.getD i false ≠ true := by
  have h0 := (mem_ready.1 h).1
  intro h1
  rcases Nat.lt_or_ge i l.size with q | q
  · simp [q] at h0 h1; rw [h0] at h1; cases h1
  · simp [Array.getElem?_eq_none q] at h1
/-- an operation that yields its value wherever the condition holds may come first -/
theorem AnyL.take {i : Nat} {oi : Oper} {v : Value} (hi : ops[i]? = some oi) (hs : Region.noSelect ops = true) (hz : ancB md ops i ops.size z = true) (hQ : ∀ c a w, Q (.panic c) (a.put oi.dst v) w → Q (.panic c) a w) :
    ∀ {k : Nat} {l : Array Bool} {a : Act} {w : World}, closedB md ops l = true → Region.free md ops l i = true → (Region.ready md ops l).contains i = true → YieldsIf P ops S oi v a → S w → AnyL P md ops Q S z k (l.setIfInBounds i true) (a.put oi.dst v) w → AnyL P md ops Q S z (k + 1) l a w := by
  intro k
  have hsel := Region.noSelect_spec hs
  suffices H : ∀ (k : Nat) (l : Array Bool) (a : Act) (w : World), ClosedL md ops l → (∀ j oj, ops[j]? = some oj → j ≠ i → l.getD j true = false → (∀ e ∈ oj.after, Region.binds md e = true → e.on ≠ i) → oi.apart ops oj = true) →
      i ∈ Region.ready md ops l → YieldsIf P ops S oi v a → S w → AnyL P md ops Q S z k (l.setIfInBounds i true) (a.put oi.dst v) w → AnyL P md ops Q S z (k + 1) l a w from
    fun {_ _ _} hc hf hr hy hS h => H k _ _ _ (closedB_spec hc) (Region.free_spec hi hf) (by simpa using hr) hy hS h
  clear k
  intro k
  induction k with
  | zero =>
    intro l a w _ _ hr hy hS h
    refine ⟨fun e => (by rw [e] at hr; cases hr), fun j hj => ?_⟩
    rcases Nat.decEq j i with hne | rfl
    · have := ready_mono hj hne
      rw [h.1] at this; cases this
    · exact hy.wpOp hi hS ⟨fun _ => hS, h⟩
  | succ k ih =>
    intro l a w hcl hap hr hy hS h
    refine ⟨fun e => (by rw [e] at hr; cases hr), fun j hj => ?_⟩
    rcases Nat.decEq j i with hne | rfl
    · obtain ⟨hju, oj, hoj, hall⟩ := mem_ready.1 hj
      have hno : ∀ e ∈ oj.after, Region.binds md e = true → e.on ≠ i := fun e he hb q => unl hr (by have := hall e he hb; rwa [q] at this)
      have hjz : j ≠ z := fun q => by
        subst q
        exact unl hr (hcl.anc hoj hall hz)
      have hiz : i ≠ z := fun q => by
        subst q
        obtain ⟨-, oi2, hoi2, hall2⟩ := mem_ready.1 hr
        exact unl hr (hcl.anc hoi2 hall2 hz)
      have hzl : l.getD z false = false := by
        cases e : l.getD z false with
        | false => rfl
        | true =>
          exfalso
          have hzs : z < ops.size := by
            rcases Nat.lt_or_ge z ops.size with q | q
            · exact q
            · cases hs2 : ops.size with
              | zero => rw [Array.getElem?_eq_none (by omega)] at hoj; cases hoj
              | succ n => rw [hs2] at hz; exact absurd hz (by
                  unfold ancB waitsB
                  rw [Array.getElem?_eq_none (by omega)]
                  simp)
          have hoz := Array.getElem?_eq_getElem (xs := ops) hzs
          exact unl hr (hcl.anc hoz (hcl z _ hoz e) hz)
      refine wpOp_mono (fun a' w' q => ?_) (wpOp_putIf hoj (hap j oj hoj hne hju hno) (fun cs b => hsel i oi cs b hi) (fun cs b => hsel j oj cs b hoj) hQ hy (h.2 j (ready_mono hj hne)))
      have hSw := q.2.1 (by rw [getD_set_ne false hjz, getD_set_ne false hiz]; exact hzl)
      refine ⟨fun _ => hSw, ih _ a' w' (hcl.set hj) (fun m om hm hmi hmu hmn => hap m om hm hmi ?_ hmn) (ready_mono hr fun q => hne q.symm) q.1 hSw ?_⟩
      · by_cases e : j = m
        · subst e; exact hju
        · rwa [getD_set_ne true e] at hmu
      · rw [Array.setIfInBounds_comm _ _ hne]; exact q.2.2
    · exact hy.wpOp hi hS ⟨fun _ => hS, h⟩
/-- an operation among the last that reads no memory may come first -/
theorem AnyL.late {i : Nat} {oi : Oper} {v : Value} (hi : ops[i]? = some oi) (hs : Region.noSelect ops = true) (hz : decide (i ≠ z) = true) (hQ : ∀ c a w, Q (.panic c) (a.put oi.dst v) w → Q (.panic c) a w) :
    ∀ {k : Nat} {l : Array Bool} {a : Act} {w : World}, Region.free md ops l i = true → (Region.ready md ops l).contains i = true → YieldsIf P ops (fun _ => True) oi v a → (l.getD z false = false → S w) → AnyL P md ops Q S z k (l.setIfInBounds i true) (a.put oi.dst v) w → AnyL P md ops Q S z (k + 1) l a w := by
  intro k
  have hsel := Region.noSelect_spec hs
  have hzi : i ≠ z := of_decide_eq_true hz
  suffices H : ∀ (k : Nat) (l : Array Bool) (a : Act) (w : World), (∀ j oj, ops[j]? = some oj → j ≠ i → l.getD j true = false → (∀ e ∈ oj.after, Region.binds md e = true → e.on ≠ i) → oi.apart ops oj = true) →
      i ∈ Region.ready md ops l → YieldsIf P ops (fun _ => True) oi v a → (l.getD z false = false → S w) → AnyL P md ops Q S z k (l.setIfInBounds i true) (a.put oi.dst v) w → AnyL P md ops Q S z (k + 1) l a w from
    fun {_ _ _} hf hr hy hS h => H k _ _ _ (Region.free_spec hi hf) (by simpa using hr) hy hS h
  clear k
  intro k
  induction k with
  | zero =>
    intro l a w _ hr hy hS h
    refine ⟨fun e => (by rw [e] at hr; cases hr), fun j hj => ?_⟩
    rcases Nat.decEq j i with hne | rfl
    · have := ready_mono hj hne
      rw [h.1] at this; cases this
    · exact hy.wpOp hi trivial ⟨fun e => hS (by rwa [getD_set_ne false hzi] at e), h⟩
  | succ k ih =>
    intro l a w hap hr hy hS h
    refine ⟨fun e => (by rw [e] at hr; cases hr), fun j hj => ?_⟩
    rcases Nat.decEq j i with hne | rfl
    · obtain ⟨hju, oj, hoj, hall⟩ := mem_ready.1 hj
      have hno : ∀ e ∈ oj.after, Region.binds md e = true → e.on ≠ i := fun e he hb q => unl hr (by have := hall e he hb; rwa [q] at this)
      refine wpOp_mono (fun a' w' q => ?_) (wpOp_putIf hoj (hap j oj hoj hne hju hno) (fun cs b => hsel i oi cs b hi) (fun cs b => hsel j oj cs b hoj) hQ hy (h.2 j (ready_mono hj hne)))
      have hSj : (l.setIfInBounds j true).getD z false = false → S w' := fun e => q.2.1 (by rw [← Array.setIfInBounds_comm _ _ hne, getD_set_ne false hzi]; exact e)
      refine ⟨hSj, ih _ a' w' (fun m om hm hmi hmu hmn => hap m om hm hmi ?_ hmn) (ready_mono hr fun q => hne q.symm) q.1 hSj ?_⟩
      · by_cases e : j = m
        · subst e; exact hju
        · rwa [getD_set_ne true e] at hmu
      · rw [Array.setIfInBounds_comm _ _ hne]; exact q.2.2
    · exact hy.wpOp hi trivial ⟨fun e => hS (by rwa [getD_set_ne false hzi] at e), h⟩
/-- one operation alone may come up -/
theorem AnyL.one {k : Nat} {l : Array Bool} {a : Act} {w : World} {i : Nat} {o : Oper} (hr : Region.ready md ops l = [i]) (ho : ops[i]? = some o)
    (h : ∀ K' : Act → World → Prop, Shut (∀ a w, ((l.setIfInBounds i true).getD z false = false → S w) → (((l.setIfInBounds i true).getD z false = false → S w) → AnyL P md ops Q S z k (l.setIfInBounds i true) a w) → K' a w) → if Region.wanted o (yielded ops a.tmps) = true then Oper.wp P o a w K' Q else K' (a.put o.dst undef) w) : AnyL P md ops Q S z (k + 1) l a w := by
  refine ⟨fun e => (by rw [hr] at e; cases e), fun j hj => ?_⟩
  rw [hr, List.mem_singleton] at hj
  subst hj
  exact wpOp_step ho fun K' hK => h K' fun a w hS hW => hK a w ⟨hS, hW hS⟩
theorem AnyL.done {k : Nat} {l : Array Bool} {a : Act} {w : World} (hr : Region.ready md ops l = []) (h : Q .normal a w) : AnyL P md ops Q S z k l a w := by
  cases k with
  | zero => exact ⟨hr, h⟩
  | succ k => exact ⟨fun _ => h, fun j hj => by rw [hr] at hj; cases hj⟩
end
end Go.Proofs.Ytgaanndidcdbpaa
/- Clip; append onto a row without room. -/
namespace Go.Proofs.Ytgaanndidcdbpaa
open Go.RowKit Go.Shelf
section
variable {P : Program} {ops : Array Oper} {Q : Exit → Act → World → Prop} {md : Region.Mode} {S : World → Prop} {z : Nat}
/-- either of two operations may come up -/
theorem AnyL.two {k : Nat} {l : Array Bool} {a : Act} {w : World} {i j : Nat} {oi oj : Oper} (hr : Region.ready md ops l = [i, j]) (hi : ops[i]? = some oi) (hj : ops[j]? = some oj)
    (h1 : ∀ K' : Act → World → Prop, Shut (∀ a w, ((l.setIfInBounds i true).getD z false = false → S w) → (((l.setIfInBounds i true).getD z false = false → S w) → AnyL P md ops Q S z k (l.setIfInBounds i true) a w) → K' a w) → if Region.wanted oi (yielded ops a.tmps) = true then Oper.wp P oi a w K' Q else K' (a.put oi.dst undef) w)
    (h2 : ∀ K' : Act → World → Prop, Shut (∀ a w, ((l.setIfInBounds j true).getD z false = false → S w) → (((l.setIfInBounds j true).getD z false = false → S w) → AnyL P md ops Q S z k (l.setIfInBounds j true) a w) → K' a w) → if Region.wanted oj (yielded ops a.tmps) = true then Oper.wp P oj a w K' Q else K' (a.put oj.dst undef) w) : AnyL P md ops Q S z (k + 1) l a w := by
  refine ⟨fun e => (by rw [hr] at e; cases e), fun m hm => ?_⟩
  rw [hr] at hm
  rcases (by simpa using hm : m = i ∨ m = j) with rfl | rfl
  · exact wpOp_step hi fun K' hK => h1 K' fun a w hS hW => hK a w ⟨hS, hW hS⟩
  · exact wpOp_step hj fun K' hK => h2 K' fun a w hS hW => hK a w ⟨hS, hW hS⟩
end

section
variable {P : Program} {W : World} {ops : Array Oper} {o : Oper} {a : Act} {K : Act → World → Prop} {Q : Exit → Act → World → Prop} {E : Prop}
/-- one element appended onto a row without room: a new row -/
theorem step_grow (hgd : o.guard = none) (s x : Operand) (t : TypeId) (ho : o.op = .call { callee := .builtin .append, args := #[s, x], argTypes := #[t, t] })
    (e : TypeId) (i : TypeInfo) (z : Value) (size bytes : Nat) (ht : P.underlying t = some (.slice e)) (hi : P.info? e = some i) (hz : i.zero = some z)
    (hsize : i.size = size) (hby : i.bytes = bytes) (hzs : z.cells.size = size) (hsz : 0 < size)
    (A : Option Addr) (n : Nat) (olds : List Value) (hs : a.eval s = .slice A n n) (hlo : olds.length = n * size) (hnA : A = none → n = 0) (holds : ∀ ad, A = some ad → ∀ j u, olds[j]? = some u → W.cell? (ad.add j) = some u)
    (b : Nat) (news : List Value) (hx : a.eval x = .slice (some ⟨b, 0, none⟩) 1 1) (hl : news.length = 1 * size) (hnews : ∀ j u, news[j]? = some u → W.cell? ((⟨b, 0, none⟩ : Addr).add j) = some u) (h1 : ∀ u ∈ news, u.oneCell' = true)
    (h63 : n + 1 ≤ maxLen) (hbytes : (n + 1) * bytes ≤ 140737488355328)
    (hK : ∀ v' w', w'.ownsRow W.heap.size e size v' (n + 1) (olds ++ news) → W.grownBy w' none → K (a.put o.dst v') w') :
    if Region.wanted o (yielded ops a.tmps) = true then Oper.wp P o a W K Q else E := by
  have hw : Region.wanted o (yielded ops a.tmps) = true := by simp [Region.wanted, hgd]
  rw [if_pos hw]
  suffices H : ∃ v' w', (Builtin.append_ #[t, t] o.type #[.slice A n n, .slice (some ⟨b, 0, none⟩) 1 1]).run P W = .ok v' w' ∧ w'.ownsRow W.heap.size e size v' (n + 1) (olds ++ news) ∧ W.grownBy w' none by
    obtain ⟨v', w', hr, h2, h3⟩ := H
    unfold Oper.wp execOp
    simp only [ho, resolve, invoke, builtin, Sem.run_bind, Sem.run_pure, Result.andThen_ok, List.map_toArray, List.map_cons, List.map_nil, hs, hx, hr]
    exact hK v' w' h2 h3
  cases A with
  | none =>
    obtain rfl := hnA rfl
    obtain rfl : olds = [] := List.eq_nil_of_length_eq_zero (by omega)
    obtain ⟨v', w', hr, h2, h3, h4⟩ := run_append_cells (P := P) W t o.type W.heap.size e i z size bytes ht hi hz hsize hby hzs hsz (.slice none 0 0) 0 [] (own_nil W W.heap.size e size) (some ⟨b, 0, none⟩) 1 1 news hl (fun _ => ⟨_, rfl, hnews⟩) h1 h63 hbytes (Nat.le_refl _)
    exact ⟨v', w', hr, h2, h3⟩
  | some ad => exact run_append_arg_grows W t o.type e i z size bytes ht hi hz hsize hby hzs hsz ad n n olds hlo (holds ad rfl) ⟨b, 0, none⟩ 1 1 news hl hnews (by omega) h63 hbytes
end
theorem clipC_any (A : Option Addr) (n c : Nat) (w : World) (hn : n ≤ 1000) (hc : n ≤ c) : Calls Try.prog 47 #[.slice A n c] w fun e w' => e = .returned (.slice A n n) ∧ Below w.heap.size w w' := by
  have h1 : (n : Int) ≤ (c : Int) := by omega
  have h2 : (0 : Int) ≤ (n : Int) := by omega
  go_enter Try.func47, Try.ntmps47
  go_wp2_with fail
  go_ret
  exact ⟨rfl, Below.refl _ _⟩
theorem clipR_any (A : Option Addr) (n c : Nat) (w : World) (hn : n ≤ 1000) (hc : n ≤ c) : Calls Try.prog 35 #[.slice A n c] w fun e w' => e = .returned (.slice A n n) ∧ Below w.heap.size w w' := by
  have h1 : (n : Int) ≤ (c : Int) := by omega
  have h2 : (0 : Int) ≤ (n : Int) := by omega
  go_enter Try.func35, Try.ntmps35
  go_wp2_with fail
  go_ret
  exact ⟨rfl, Below.refl _ _⟩
theorem clipO_any (A : Option Addr) (n c : Nat) (w : World) (hn : n ≤ 1000) (hc : n ≤ c) : Calls Try.prog 44 #[.slice A n c] w fun e w' => e = .returned (.slice A n n) ∧ Below w.heap.size w w' := by
  have h1 : (n : Int) ≤ (c : Int) := by omega
  have h2 : (0 : Int) ≤ (n : Int) := by omega
  go_enter Try.func44, Try.ntmps44
  go_wp2_with fail
  go_ret
  exact ⟨rfl, Below.refl _ _⟩
end Go.Proofs.Ytgaanndidcdbpaa
/- A row with one element more; what Commit, Reveal and Open answer. -/
namespace Go.Proofs.Ytgaanndidcdbpaa
open Go.RowKit Go.Shelf

/-- the cells of n elements, one behind the other -/
def flatF (f : Nat → Nat → Value) (n sz : Nat) : List Value := (List.range (n * sz)).map fun j => f (j / sz) (j % sz)
theorem flatF_len (f : Nat → Nat → Value) (n sz : Nat) : (flatF f n sz).length = n * sz := by simp [flatF]
theorem flatF_get {f : Nat → Nat → Value} {n sz j : Nat} (hj : j < n * sz) : (flatF f n sz)[j]? = some (f (j / sz) (j % sz)) := by
  unfold flatF; rw [List.getElem?_map, List.getElem?_range hj]; rfl
theorem flatF_holds {W : World} {M : Nat → Prop} {sz n : Nat} {A : Option Addr} {f : Nat → Nat → Value} (h : Cells W M sz A n f) (hsz : 0 < sz) : ∀ ad, A = some ad → ∀ j u, (flatF f n sz)[j]? = some u → W.cell? (ad.add j) = some u := by
  intro ad hA j u hj
  have hjl : j < n * sz := by have := (List.getElem?_eq_some_iff.1 hj).1; rwa [flatF_len] at this
  have hi : j / sz < n := Nat.div_lt_of_lt_mul (by rw [Nat.mul_comm]; exact hjl)
  obtain ⟨b, off, e, -, hc⟩ := h (Nat.lt_of_le_of_lt (Nat.zero_le _) hi)
  rw [hA] at e
  injection e with e
  subst e
  rw [addr_add]
  have := hc (j / sz) (j % sz) hi (Nat.mod_lt _ hsz)
  rw [show off + j / sz * sz + j % sz = off + j by have := Nat.div_add_mod j sz; rw [Nat.mul_comm] at this; omega] at this
  rw [this, ← flatF_get hjl, hj]
theorem flatF_own {W : World} {base e sz n : Nat} {v : Value} {f : Nat → Nat → Value} {news : List Value} (h : W.ownsRow base e sz v (n + 1) (flatF f n sz ++ news)) : IsSl W (fun b => base ≤ b) sz v (n + 1) (fun i j => if i < n then f i j else news.getD j .nilIface) := by
  refine (IsSl.ofOwn h (M := fun b => base ≤ b) fun _ hb => hb).congr fun i j hi hj => ?_
  by_cases hin : i < n
  · rw [if_pos hin]
    have hlt : i * sz + j < n * sz := by
      have : (i + 1) * sz ≤ n * sz := Nat.mul_le_mul_right _ (by omega)
      rw [Nat.add_mul] at this
      omega
    rw [List.getD_eq_getElem?_getD, List.getElem?_append_left (by rw [flatF_len]; exact hlt), flatF_get hlt]
    rw [show (i * sz + j) / sz = i by rw [Nat.mul_comm, Nat.mul_add_div (by omega), Nat.div_eq_of_lt hj, Nat.add_zero], show (i * sz + j) % sz = j by rw [Nat.mul_comm, Nat.mul_add_mod, Nat.mod_eq_of_lt hj]]
    rfl
  · rw [if_neg hin]
    obtain rfl : i = n := by omega
    rw [List.getD_eq_getElem?_getD, List.getElem?_append_right (by rw [flatF_len]; omega), flatF_len, Nat.add_sub_cancel_left, ← List.getD_eq_getElem?_getD]
theorem Try.infoCom : (Try.prog.info? 64).map (fun i => (i.zero, i.size, i.bytes)) = some (some (.agg #[.int .i64 0, .slice none 0 0]), 2, 32) := by kernel_rfl
theorem Try.infoRev : (Try.prog.info? 52).map (fun i => (i.zero, i.size, i.bytes)) = some (some (.agg #[.int .i64 0, .int .u64 0]), 2, 16) := by kernel_rfl
theorem Try.infoOpn : (Try.prog.info? 61).map (fun i => (i.zero, i.size, i.bytes)) = some (some (.agg #[.int .i64 0, .int .i64 0, .int .u64 0, .int .u64 0]), 4, 32) := by kernel_rfl
def commitD (b : BeaD) (c : ComD) : BeaD × Int := if chkD b = 0 then (if (comAt b c.club).isSome || !comB b c then (bea0, 240) else ({b with coms := b.coms ++ [c]}, 0)) else (bea0, chkD b)
def revealD (b : BeaD) (r : RevD) : BeaD × Int := if chkD b = 0 then (if !doneB b || (List.range b.revs.length).any (fun i => decide ((revN b.revs i).club = r.club)) then (bea0, 240) else if revB b r then ({b with revs := b.revs ++ [r]}, 0) else (bea0, 241)) else (bea0, chkD b)
def openD (b : BeaD) (o : OpnD) : BeaD × Int := if chkD b = 0 then (if !doneB b || (List.range b.opns.length).any (fun i => decide ((opnN b.opns i).club = o.club) && decide ((opnN b.opns i).frm = o.frm)) then (bea0, 240) else if opnB b o then ({b with opns := b.opns ++ [o]}, 0) else (bea0, 241)) else (bea0, chkD b)
theorem comN_snoc (l : List ComD) (c : ComD) (i : Nat) (hi : i < l.length + 1) : comN (l ++ [c]) i = if i < l.length then comN l i else c := by
  unfold comN
  rw [List.getD_eq_getElem?_getD]
  by_cases h : i < l.length
  · rw [if_pos h, List.getElem?_append_left h, ← List.getD_eq_getElem?_getD]
  · rw [if_neg h, List.getElem?_append_right (by omega), show i - l.length = 0 by omega]; rfl
theorem revN_snoc (l : List RevD) (c : RevD) (i : Nat) (hi : i < l.length + 1) : revN (l ++ [c]) i = if i < l.length then revN l i else c := by
  unfold revN
  rw [List.getD_eq_getElem?_getD]
  by_cases h : i < l.length
  · rw [if_pos h, List.getElem?_append_left h, ← List.getD_eq_getElem?_getD]
  · rw [if_neg h, List.getElem?_append_right (by omega), show i - l.length = 0 by omega]; rfl
theorem opnN_snoc (l : List OpnD) (c : OpnD) (i : Nat) (hi : i < l.length + 1) : opnN (l ++ [c]) i = if i < l.length then opnN l i else c := by
  unfold opnN
  rw [List.getD_eq_getElem?_getD]
  by_cases h : i < l.length
  · rw [if_pos h, List.getElem?_append_left h, ← List.getD_eq_getElem?_getD]
  · rw [if_neg h, List.getElem?_append_right (by omega), show i - l.length = 0 by omega]; rfl
/-- a list of commitments with one more, in memory -/
theorem coms_snoc {w W : World} {M M' Mx : Nat → Prop} {l : List ComD} {c : ComD} {vs : Nat → Value} {u v : Value} {base : Nat} (hv : ∀ i, i < l.length → IsU64 w M (vs i) (comN l i).checks) (hu : IsU64 w M' u c.checks) (hb : Below w.heap.size w W) (hx1 : ∀ q, M q → Mx q) (hx2 : ∀ q, M' q → Mx q) (hx3 : ∀ q, base ≤ q → Mx q)
    (ho : W.ownsRow base 64 2 v (l.length + 1) (flatF (comC vs l) l.length 2 ++ [.int .i64 c.club, u])) : IsComs W Mx v (l ++ [c]) := by
  refine ⟨fun i => if i < l.length then vs i else u, ?_, fun i hi => ?_⟩
  · rw [List.length_append]
    refine ((flatF_own ho).mono (fun q _ hq => hx3 q hq) (by omega)).congr fun i j hi hj => ?_
    unfold comC
    have hi' : i < l.length + 1 := hi
    have hj2 : j = 0 ∨ j = 1 := by omega
    rw [comN_snoc l c i hi']
    by_cases h : i < l.length
    · rw [if_pos h, if_pos h]; dsimp only; rw [if_pos h]
    · rw [if_neg h, if_neg h]; dsimp only; rw [if_neg h]
      rcases hj2 with rfl | rfl <;> rfl
  · rw [List.length_append] at hi
    have hi' : i < l.length + 1 := hi
    rw [comN_snoc l c i hi']
    show IsU64 W Mx (if i < l.length then vs i else u) _
    by_cases h : i < l.length
    · rw [if_pos h, if_pos h]; exact IsSl.mono (IsSl.below (hv i h) hb) (fun q _ hq => hx1 q hq) (by omega)
    · rw [if_neg h, if_neg h]; exact IsSl.mono (IsSl.below hu hb) (fun q _ hq => hx2 q hq) (by omega)
theorem revs_snoc {W : World} {Mx : Nat → Prop} {l : List RevD} {c : RevD} {v : Value} {base : Nat} (hx3 : ∀ q, base ≤ q → Mx q)
    (ho : W.ownsRow base 52 2 v (l.length + 1) (flatF (fun i j => revC (revN l i) j) l.length 2 ++ [.int .i64 c.club, .int .u64 (c.num : Int)])) : IsRevs W Mx v (l ++ [c]) := by
  unfold IsRevs
  rw [List.length_append]
  refine ((flatF_own ho).mono (fun q _ hq => hx3 q hq) (by omega)).congr fun i j hi hj => ?_
  have hi' : i < l.length + 1 := hi
  have hj2 : j = 0 ∨ j = 1 := by omega
  rw [revN_snoc l c i hi']
  by_cases h : i < l.length
  · rw [if_pos h, if_pos h]
  · rw [if_neg h, if_neg h]
    rcases hj2 with rfl | rfl <;> rfl
theorem opns_snoc {W : World} {Mx : Nat → Prop} {l : List OpnD} {c : OpnD} {v : Value} {base : Nat} (hx3 : ∀ q, base ≤ q → Mx q)
    (ho : W.ownsRow base 61 4 v (l.length + 1) (flatF (fun i j => opnC (opnN l i) j) l.length 4 ++ [.int .i64 c.club, .int .i64 c.frm, .int .u64 (c.sh.1 : Int), .int .u64 (c.sh.2 : Int)])) : IsOpns W Mx v (l ++ [c]) := by
  unfold IsOpns
  rw [List.length_append]
  refine ((flatF_own ho).mono (fun q _ hq => hx3 q hq) (by omega)).congr fun i j hi hj => ?_
  have hi' : i < l.length + 1 := hi
  have hj2 : j = 0 ∨ j = 1 ∨ j = 2 ∨ j = 3 := by omega
  rw [opnN_snoc l c i hi']
  by_cases h : i < l.length
  · rw [if_pos h, if_pos h]
  · rw [if_neg h, if_neg h]
    rcases hj2 with rfl | rfl | rfl | rfl <;> rfl
end Go.Proofs.Ytgaanndidcdbpaa
/- One operation of a region whose last operations wait for all others, its slot written out, for any seat. -/
namespace Go.Proofs.Ytgaanndidcdbpaa
open Go.RowKit
section
variable {P : Program} {ops : Array Oper} {Q : Exit → Act → World → Prop} {md : Region.Mode} {S : World → Prop} {z : Nat}
theorem AnyL.takeD {i : Nat} {oi : Oper} {d : Option Tmp} {v : Value} (hi : ops[i]? = some oi) (hd : oi.dst = d) (hs : Region.noSelect ops = true) (hz : ancB md ops i ops.size z = true) (hQ : ∀ c a w, Q (.panic c) (a.put d v) w → Q (.panic c) a w)
    {k : Nat} {l : Array Bool} {a : Act} {w : World} (hc : closedB md ops l = true) (hf : Region.free md ops l i = true) (hr : (Region.ready md ops l).contains i = true) (hy : YieldsIf P ops S oi v a) (hS : S w) (h : AnyL P md ops Q S z k (l.setIfInBounds i true) (a.put d v) w) : AnyL P md ops Q S z (k + 1) l a w := by
  subst hd
  exact AnyL.take hi hs hz hQ hc hf hr hy hS h
theorem AnyL.lateD {i : Nat} {oi : Oper} {d : Option Tmp} {v : Value} (hi : ops[i]? = some oi) (hd : oi.dst = d) (hs : Region.noSelect ops = true) (hz : decide (i ≠ z) = true) (hQ : ∀ c a w, Q (.panic c) (a.put d v) w → Q (.panic c) a w)
    {k : Nat} {l : Array Bool} {a : Act} {w : World} (hf : Region.free md ops l i = true) (hr : (Region.ready md ops l).contains i = true) (hy : YieldsIf P ops (fun _ => True) oi v a) (hS : l.getD z false = false → S w) (h : AnyL P md ops Q S z k (l.setIfInBounds i true) (a.put d v) w) : AnyL P md ops Q S z (k + 1) l a w := by
  subst hd
  exact AnyL.late hi hs hz hQ hf hr hy hS h
end
end Go.Proofs.Ytgaanndidcdbpaa
