import Derived.Test.YtikddknhcfhnbaaGen
import Derived.Maps.OwnSet
namespace Go.Proofs.Ytikddknhcfhnbaa
open Go.RowKit
open Go.Maps (Keyed)

theorem plainElem_bool_inv {H : Type} {P : Program} {e : TypeId} (he : P.underlying e = some .bool) {v : Value} {z : DataW H × List MemPlace} (h : plainElem P e v = some z) : ∃ a, v = .bool a ∧ z = (.lit (.bool a), []) := by
  unfold plainElem at h
  rw [he] at h
  cases v <;> simp at h
  exact ⟨_, rfl, h.symm⟩
theorem own_ne {w : World} {base e sz n g : Nat} {v : Value} {xs : List Value} {o : Obj} (h : w.ownsRow base e sz v n xs) (hg : w.heap[g]? = some o) (hne : ∀ cs z, o ≠ .cells cs e z) : v.ownBlock ≠ some g := by
  intro hv
  rcases h.2 with ⟨rfl, _⟩ | ⟨b, cap, cur, rfl, _, hgb, _⟩
  · simp [Value.ownBlock] at hv
  · simp [Value.ownBlock] at hv
    subst hv
    rw [hgb] at hg
    cases hg
    exact hne _ _ rfl
theorem own_slice {w : World} {base e sz n : Nat} {v : Value} {xs : List Value} (h : w.ownsRow base e sz v n xs) : ∃ A c, v = .slice A n c := by
  rcases h.2 with ⟨rfl, h0⟩ | ⟨b, cap, cur, rfl, _⟩
  · exact ⟨none, 0, by rw [h0]⟩
  · exact ⟨_, _, rfl⟩
/-- block b is a map of numbers to bools, of n entries at most, that answers s (false where there is no entry) -/
def SetB (P : Program) (kt et : TypeId) (q : IntKind) (w : World) (b n : Nat) (s : Int → Bool) : Prop :=
  ∃ D : DataW Unit, w.ownsMap P kt (plainElem P et) b n D ∧ ∀ x, (Lit.int q x).wf = true → D.atKey (.int q x) (.lit (.bool false)) = .lit (.bool (s x))
/-- s, but val at key -/
def updS (s : Int → Bool) (key : Int) (val : Bool) : Int → Bool := fun y => if y = key then val else s y
section
variable {P : Program} {kt et mt : TypeId} {q : IntKind} {w : World} {b n : Nat} {s : Int → Bool}
theorem SetB.made (w : World) : SetB P kt et q (w.alloc (.map #[] 0)) w.heap.size 0 (fun _ => false) :=
  ⟨.map [], World.ownsMap_made w P kt _, fun _ _ => rfl⟩
theorem SetB.lt (h : SetB P kt et q w b n s) : b < w.heap.size := by obtain ⟨D, h, _⟩ := h; exact h.lt
theorem SetB.heap (h : SetB P kt et q w b n s) : ∃ es c, w.heap[b]? = some (.map es c) := by obtain ⟨D, ⟨es, c, hb, _⟩, _⟩ := h; exact ⟨es, c, hb⟩
theorem SetB.below {m : Nat} {w' : World} (h : SetB P kt et q w b n s) (hb : Below m w w') (hm : w.heap.size ≤ m) : SetB P kt et q w' b n s := by
  obtain ⟨D, h, hs⟩ := h
  have hlt := h.lt
  obtain ⟨es, clock, hbb, F, hsz, hD⟩ := h
  exact ⟨D, ⟨es, clock, (hb.block b (by omega)).trans hbb, F, hsz, hD⟩, hs⟩
theorem SetB.kept {w' : World} {row : Option Nat} (h : SetB P kt et q w b n s) (hg : w.grownBy w' row) (hne : some b ≠ row) : SetB P kt et q w' b n s := by
  obtain ⟨D, h, hs⟩ := h
  exact ⟨D, h.kept hg hne, hs⟩
theorem SetB.alloc (h : SetB P kt et q w b n s) (o : Obj) : SetB P kt et q (w.alloc o) b n s := h.kept (World.grownBy_alloc w o none) (by simp)
theorem SetB.drewN (h : SetB P kt et q w b n s) (m : Nat) : SetB P kt et q (w.drewN m) b n s := h
theorem SetB.set (h : SetB P kt et q w b n s) {g : Nat} (hg : g ≠ b) (j : Nat) (u : Value) : SetB P kt et q (w.setCell ⟨g, j, none⟩ u) b n s := by
  obtain ⟨D, h, hs⟩ := h
  obtain ⟨es, clock, hbb, F, hsz, hD⟩ := h
  exact ⟨D, ⟨es, clock, by rw [heap_set_if, if_neg (fun e => hg e.symm)]; exact hbb, F, hsz, hD⟩, hs⟩
theorem wpList_lookup_set {ops : Array Oper} {rest : List Oper} {o : Oper} {a : Act} {Q : Exit → Act → World → Prop}
    (hg : o.guard = none) (m x : Operand) (t : TypeId) (hop : o.op = Op.lookup t m x false)
    (hk : P.underlying kt = some (.int q)) (ht : P.underlying t = some (.map kt et)) (he : P.underlying et = some .bool) (hz : (zeroValue et).run P w = .ok (.bool false) w)
    (hm : a.eval m = .map (some b)) (hown : SetB P kt et q w b n s) (key : Int) (hx : a.eval x = .int q key) (hwf : (Lit.int q key).wf = true)
    (hK : wpList P ops Q rest (a.put o.dst (.bool (s key))) w) :
    wpList P ops Q (o :: rest) a w := by
  obtain ⟨D, hown, hs⟩ := hown
  refine wpList_plain hg fun K' hK' => ?_
  obtain ⟨v, ps, hrun, hv⟩ := hown.lookup (Maps.int_keyed hk) ht hz (plainElem_bool he false) (Maps.keyOf_int_mk hk hwf)
  obtain ⟨c, rfl, hc⟩ := plainElem_bool_inv he hv
  simp only [Prod.mk.injEq] at hc
  rw [hs key hwf] at hc
  have hcs : c = s key := by have := hc.1; injection this with h1; injection h1 with h2; exact h2.symm
  rw [hcs] at hrun
  unfold Oper.wp
  simp [execOp, hop, hm, hx, hrun, Result.andThen]
  exact hK' _ _ hK
theorem wpList_update_set {ops : Array Oper} {rest : List Oper} {o : Oper} {a : Act} {Q : Exit → Act → World → Prop}
    (hg : o.guard = none) (m x v : Operand) (t : TypeId) (hop : o.op = Op.mapUpdate t m x v)
    (hk : P.underlying kt = some (.int q)) (ht : P.underlying t = some (.map kt et)) (he : P.underlying et = some .bool)
    (hm : a.eval m = .map (some b)) (hown : SetB P kt et q w b n s) (hn : n < maxLen) (key : Int) (hx : a.eval x = .int q key) (hwf : (Lit.int q key).wf = true) (val : Bool) (hv : a.eval v = .bool val)
    (hK : ∀ w', SetB P kt et q w' b (n + 1) (updS s key val) → w.grownBy w' (some b) → wpList P ops Q rest (a.put o.dst undef) w') :
    wpList P ops Q (o :: rest) a w := by
  obtain ⟨D, hown, hs⟩ := hown
  unfold updS at hK
  refine wpList_mapUpdate_own w hg m x v t hop kt et (Maps.int_keyed hk) ht _ b n D hm hown hn _ _ _ hx hv (Maps.keyOf_int_mk hk hwf) _ [] (plainElem_bool he val) fun w' h1 h2 => hK w' ⟨_, h1, fun y hy => ?_⟩ h2
  by_cases e : y = key
  · subst e
    rw [Maps.atKey_put_same hown.isMap (show WideAt.IsKeyLit (.int q y) from trivial)]; simp only [if_pos]
  · rw [Maps.atKey_put_other (by intro h; cases h; exact e rfl), hs y hy]; simp only [if_neg e]
end
end Go.Proofs.Ytikddknhcfhnbaa
