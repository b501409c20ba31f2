/- A region with an operation z that waits for the others: till it comes up a condition on the world holds; what reads no memory may come behind it. For any seat. -/
import Derived.Test.YtocjhepiooljpaaRf
import Derived.OrdersHeld
import Derived.Deep.RegionHeld
namespace Go.Proofs.Ytocjhepiooljpaa
open Go.RowKit
section
variable {P : Program} {ops : Array Oper} {Q : Exit → Act → World → Prop} {md : Region.Mode} {S : World → Prop} {z : Nat}
/-- any order; as long as z has not come up the condition holds -/
def AnyL (P : Program) (md : Region.Mode) (ops : Array Oper) (Q : Exit → Act → World → Prop) (S : World → Prop) (z : Nat) : Nat → Array Bool → Act → World → Prop
  | 0, l, a, w => Region.ready md ops l = [] ∧ Q .normal a w
  | k + 1, l, a, w => (Region.ready md ops l = [] → Q .normal a w) ∧ ∀ j, j ∈ Region.ready md ops l → wpOp P ops Q j (fun a' w' => ((l.setIfInBounds j true).getD z false = false → S w') ∧ AnyL P md ops Q S z k (l.setIfInBounds j true) a' w') a w
theorem AnyL.any : ∀ {k : Nat} {l : Array Bool} {a : Act} {w : World}, AnyL P md ops Q S z k l a w → wpAny P md ops Q k l a w
  | 0, _, _, _, h => h
  | _ + 1, _, _, _, h => ⟨h.1, fun j hj => wpOp_mono (fun _ _ q => AnyL.any q.2) (h.2 j hj)⟩
theorem anyL_begin {id : Nat} {a : Act} {w : World} (hm : P.follows .mixedOrders = true) (hS : S w.drew) (h : S w.drew → AnyL P .any ops Q S z ops.size (Array.replicate ops.size false) a w.drew) : (Code.region id ops true).wp P Q a w :=
  wp_region_any hm (h hS).any
/-- z waits for i -/
def waitsB (md : Region.Mode) (ops : Array Oper) (z i : Nat) : Bool := ((ops[z]?).map fun o => o.after.any fun e => Region.binds md e && e.on == i).getD false
theorem waitsB_spec {i : Nat} {o : Oper} (h : waitsB md ops z i = true) (ho : ops[z]? = some o) : ∃ e ∈ o.after, Region.binds md e = true ∧ e.on = i := by
  unfold waitsB at h
  rw [ho] at h
  simp only [Option.map_some, Option.getD_some, Array.any_eq_true] at h
  obtain ⟨j, hj, e⟩ := h
  rw [Bool.and_eq_true, beq_iff_eq] at e
  exact ⟨_, Array.getElem_mem hj, e.1, e.2⟩
/-- z waits for i, through others -/
def ancB (md : Region.Mode) (ops : Array Oper) (i : Nat) : Nat → Nat → Bool
  | 0, _ => false
  | k + 1, z => waitsB md ops z i || (List.range ops.size).any fun m => waitsB md ops z m && ancB md ops i k m
/-- what has come up: with each operation all that it waited for -/
def ClosedL (md : Region.Mode) (ops : Array Oper) (l : Array Bool) : Prop := ∀ m om, ops[m]? = some om → l.getD m false = true → ∀ e ∈ om.after, Region.binds md e = true → l.getD e.on false = true
def closedB (md : Region.Mode) (ops : Array Oper) (l : Array Bool) : Bool := (List.range ops.size).all fun m => !l.getD m false || ((ops[m]?).map fun o => o.after.all fun e => !Region.binds md e || l.getD e.on false).getD true
theorem closedB_spec {l : Array Bool} (h : closedB md ops l = true) : ClosedL md ops l := by
  intro m om hm hl e he hb
  unfold closedB at h
  rw [List.all_eq_true] at h
  have := h m (List.mem_range.2 (Array.getElem?_eq_some_iff.1 hm).1)
  rw [hl, hm] at this
  simp only [Bool.not_true, Bool.false_or, Option.map_some, Option.getD_some, Array.all_eq_true'] at this
  have := this e he
  rw [hb] at this
  simpa using this
theorem ClosedL.set {l : Array Bool} {j : Nat} (h : ClosedL md ops l) (hj : j ∈ Region.ready md ops l) : ClosedL md ops (l.setIfInBounds j true) := by
  intro m om hm hl e he hb
  by_cases q : j = m
  · subst q
    obtain ⟨-, o, ho, hall⟩ := mem_ready.1 hj
    rw [hm] at ho
    injection ho with ho
    subst ho
    exact getD_set_true (hall e he hb)
  · rw [getD_set_ne false q] at hl
    exact getD_set_true (h m om hm hl e he hb)
theorem ClosedL.anc {l : Array Bool} (h : ClosedL md ops l) {i : Nat} : ∀ {k z : Nat} {o : Oper}, ops[z]? = some o → (∀ e ∈ o.after, Region.binds md e = true → l.getD e.on false = true) → ancB md ops i k z = true → l.getD i false = true
  | 0, _, _, _, _, e => by cases e
  | k + 1, z, o, ho, hl, e => by
    unfold ancB at e
    rw [Bool.or_eq_true, List.any_eq_true] at e
    rcases e with e | ⟨m, hm, e⟩
    · obtain ⟨d, hd, hb, rfl⟩ := waitsB_spec e ho
      exact hl d hd hb
    · rw [Bool.and_eq_true] at e
      obtain ⟨d, hd, hb, rfl⟩ := waitsB_spec e.1 ho
      have hom := Array.getElem?_eq_getElem (xs := ops) (List.mem_range.1 hm)
      exact h.anc hom (h _ _ hom (hl d hd hb)) e.2
theorem unl {l : Array Bool} {i : Nat} (h : i ∈ Region.ready md ops l) : l.getD i false ≠ true := by
  have h0 := (mem_ready.1 h).1
  intro h1
  rcases Nat.lt_or_ge i l.size with q | q
  · simp [q] at h0 h1; rw [h0] at h1; cases h1
  · simp [Array.getElem?_eq_none q] at h1
/-- an operation that yields its value wherever the condition holds may come first -/
theorem AnyL.take {i : Nat} {oi : Oper} {v : Value} (hi : ops[i]? = some oi) (hs : Region.noSelect ops = true) (hz : ancB md ops i ops.size z = true) (hQ : ∀ c a w, Q (.panic c) (a.put oi.dst v) w → Q (.panic c) a w) :
    ∀ {k : Nat} {l : Array Bool} {a : Act} {w : World}, closedB md ops l = true → Region.free md ops l i = true → (Region.ready md ops l).contains i = true → YieldsIf P ops S oi v a → S w → AnyL P md ops Q S z k (l.setIfInBounds i true) (a.put oi.dst v) w → AnyL P md ops Q S z (k + 1) l a w := by
  intro k
  have hsel := Region.noSelect_spec hs
  suffices H : ∀ (k : Nat) (l : Array Bool) (a : Act) (w : World), ClosedL md ops l → (∀ j oj, ops[j]? = some oj → j ≠ i → l.getD j true = false → (∀ e ∈ oj.after, Region.binds md e = true → e.on ≠ i) → oi.apart ops oj = true) →
      i ∈ Region.ready md ops l → YieldsIf P ops S oi v a → S w → AnyL P md ops Q S z k (l.setIfInBounds i true) (a.put oi.dst v) w → AnyL P md ops Q S z (k + 1) l a w from
    fun {_ _ _} hc hf hr hy hS h => H k _ _ _ (closedB_spec hc) (Region.free_spec hi hf) (by simpa using hr) hy hS h
  clear k
  intro k
  induction k with
  | zero =>
    intro l a w _ _ hr hy hS h
    refine ⟨fun e => (by rw [e] at hr; cases hr), fun j hj => ?_⟩
    rcases Nat.decEq j i with hne | rfl
    · have := ready_mono hj hne
      rw [h.1] at this; cases this
    · exact hy.wpOp hi hS ⟨fun _ => hS, h⟩
  | succ k ih =>
    intro l a w hcl hap hr hy hS h
    refine ⟨fun e => (by rw [e] at hr; cases hr), fun j hj => ?_⟩
    rcases Nat.decEq j i with hne | rfl
    · obtain ⟨hju, oj, hoj, hall⟩ := mem_ready.1 hj
      have hno : ∀ e ∈ oj.after, Region.binds md e = true → e.on ≠ i := fun e he hb q => unl hr (by have := hall e he hb; rwa [q] at this)
      have hjz : j ≠ z := fun q => by
        subst q
        exact unl hr (hcl.anc hoj hall hz)
      have hiz : i ≠ z := fun q => by
        subst q
        obtain ⟨-, oi2, hoi2, hall2⟩ := mem_ready.1 hr
        exact unl hr (hcl.anc hoi2 hall2 hz)
      have hzl : l.getD z false = false := by
        cases e : l.getD z false with
        | false => rfl
        | true =>
          exfalso
          have hzs : z < ops.size := by
            rcases Nat.lt_or_ge z ops.size with q | q
            · exact q
            · cases hs2 : ops.size with
              | zero => rw [Array.getElem?_eq_none (by omega)] at hoj; cases hoj
              | succ n => rw [hs2] at hz; exact absurd hz (by
                  unfold ancB waitsB
                  rw [Array.getElem?_eq_none (by omega)]
                  simp)
          have hoz := Array.getElem?_eq_getElem (xs := ops) hzs
          exact unl hr (hcl.anc hoz (hcl z _ hoz e) hz)
      refine wpOp_mono (fun a' w' q => ?_) (wpOp_putIf hoj (hap j oj hoj hne hju hno) (fun cs b => hsel i oi cs b hi) (fun cs b => hsel j oj cs b hoj) hQ hy (h.2 j (ready_mono hj hne)))
      have hSw := q.2.1 (by rw [getD_set_ne false hjz, getD_set_ne false hiz]; exact hzl)
      refine ⟨fun _ => hSw, ih _ a' w' (hcl.set hj) (fun m om hm hmi hmu hmn => hap m om hm hmi ?_ hmn) (ready_mono hr fun q => hne q.symm) q.1 hSw ?_⟩
      · by_cases e : j = m
        · subst e; exact hju
        · rwa [getD_set_ne true e] at hmu
      · rw [Array.setIfInBounds_comm _ _ hne]; exact q.2.2
    · exact hy.wpOp hi hS ⟨fun _ => hS, h⟩
/-- an operation among the last that reads no memory may come first -/
theorem AnyL.late {i : Nat} {oi : Oper} {v : Value} (hi : ops[i]? = some oi) (hs : Region.noSelect ops = true) (hz : decide (i ≠ z) = true) (hQ : ∀ c a w, Q (.panic c) (a.put oi.dst v) w → Q (.panic c) a w) :
    ∀ {k : Nat} {l : Array Bool} {a : Act} {w : World}, Region.free md ops l i = true → (Region.ready md ops l).contains i = true → YieldsIf P ops (fun _ => True) oi v a → (l.getD z false = false → S w) → AnyL P md ops Q S z k (l.setIfInBounds i true) (a.put oi.dst v) w → AnyL P md ops Q S z (k + 1) l a w := by
  intro k
  have hsel := Region.noSelect_spec hs
  have hzi : i ≠ z := of_decide_eq_true hz
  suffices H : ∀ (k : Nat) (l : Array Bool) (a : Act) (w : World), (∀ j oj, ops[j]? = some oj → j ≠ i → l.getD j true = false → (∀ e ∈ oj.after, Region.binds md e = true → e.on ≠ i) → oi.apart ops oj = true) →
      i ∈ Region.ready md ops l → YieldsIf P ops (fun _ => True) oi v a → (l.getD z false = false → S w) → AnyL P md ops Q S z k (l.setIfInBounds i true) (a.put oi.dst v) w → AnyL P md ops Q S z (k + 1) l a w from
    fun {_ _ _} hf hr hy hS h => H k _ _ _ (Region.free_spec hi hf) (by simpa using hr) hy hS h
  clear k
  intro k
  induction k with
  | zero =>
    intro l a w _ hr hy hS h
    refine ⟨fun e => (by rw [e] at hr; cases hr), fun j hj => ?_⟩
    rcases Nat.decEq j i with hne | rfl
    · have := ready_mono hj hne
      rw [h.1] at this; cases this
    · exact hy.wpOp hi trivial ⟨fun e => hS (by rwa [getD_set_ne false hzi] at e), h⟩
  | succ k ih =>
    intro l a w hap hr hy hS h
    refine ⟨fun e => (by rw [e] at hr; cases hr), fun j hj => ?_⟩
    rcases Nat.decEq j i with hne | rfl
    · obtain ⟨hju, oj, hoj, hall⟩ := mem_ready.1 hj
      have hno : ∀ e ∈ oj.after, Region.binds md e = true → e.on ≠ i := fun e he hb q => unl hr (by have := hall e he hb; rwa [q] at this)
      refine wpOp_mono (fun a' w' q => ?_) (wpOp_putIf hoj (hap j oj hoj hne hju hno) (fun cs b => hsel i oi cs b hi) (fun cs b => hsel j oj cs b hoj) hQ hy (h.2 j (ready_mono hj hne)))
      have hSj : (l.setIfInBounds j true).getD z false = false → S w' := fun e => q.2.1 (by rw [← Array.setIfInBounds_comm _ _ hne, getD_set_ne false hzi]; exact e)
      refine ⟨hSj, ih _ a' w' (fun m om hm hmi hmu hmn => hap m om hm hmi ?_ hmn) (ready_mono hr fun q => hne q.symm) q.1 hSj ?_⟩
      · by_cases e : j = m
        · subst e; exact hju
        · rwa [getD_set_ne true e] at hmu
      · rw [Array.setIfInBounds_comm _ _ hne]; exact q.2.2
    · exact hy.wpOp hi trivial ⟨fun e => hS (by rwa [getD_set_ne false hzi] at e), h⟩
/-- one operation alone may come up -/
theorem AnyL.one {k : Nat} {l : Array Bool} {a : Act} {w : World} {i : Nat} {o : Oper} (hr : Region.ready md ops l = [i]) (ho : ops[i]? = some o)
    (h : ∀ K' : Act → World → Prop, Shut (∀ a w, ((l.setIfInBounds i true).getD z false = false → S w) → (((l.setIfInBounds i true).getD z false = false → S w) → AnyL P md ops Q S z k (l.setIfInBounds i true) a w) → K' a w) → if Region.wanted o (yielded ops a.tmps) = true then Oper.wp P o a w K' Q else K' (a.put o.dst undef) w) : AnyL P md ops Q S z (k + 1) l a w := by
  refine ⟨fun e => (by rw [hr] at e; cases e), fun j hj => ?_⟩
  rw [hr, List.mem_singleton] at hj
  subst hj
  exact wpOp_step ho fun K' hK => h K' fun a w hS hW => hK a w ⟨hS, hW hS⟩
theorem AnyL.done {k : Nat} {l : Array Bool} {a : Act} {w : World} (hr : Region.ready md ops l = []) (h : Q .normal a w) : AnyL P md ops Q S z k l a w := by
  cases k with
  | zero => exact ⟨hr, h⟩
  | succ k => exact ⟨fun _ => h, fun j hj => by rw [hr] at hj; cases hj⟩
end
end Go.Proofs.Ytocjhepiooljpaa
