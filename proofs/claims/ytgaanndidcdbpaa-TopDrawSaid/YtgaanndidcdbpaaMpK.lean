import Derived.Test.YtgaanndidcdbpaaGen
import Derived.Maps.OwnSet
namespace Go.Proofs.Ytgaanndidcdbpaa
open Go.RowKit
open Go.Maps (Keyed)

theorem plainElem_bool_inv' {H : Type} {P : Program} {e : TypeId} (he : P.underlying e = some .bool) {v : Value} {z : DataW H × List MemPlace} (h : plainElem P e v = some z) : ∃ a, v = .bool a ∧ z = (.lit (.bool a), []) := by
  unfold plainElem at h
  rw [he] at h
  cases v <;> simp at h
  exact ⟨_, rfl, h.symm⟩
/-- block b is a map of keys (values kv x of a type X) to bools, of n entries at most, that answers s (false where there is no entry) -/
def SetK {X : Type} (kv : X → Value) (P : Program) (kt et : TypeId) (w : World) (b n : Nat) (s : X → Bool) : Prop :=
  ∃ D : DataW Unit, w.ownsMap P kt (plainElem P et) b n D ∧ ∀ x l, keyOf P kt (kv x) = some l → D.atKey l (.lit (.bool false)) = .lit (.bool (s x))
/-- s, but val at key -/
def updK {X : Type} [DecidableEq X] (s : X → Bool) (key : X) (val : Bool) : X → Bool := fun y => if y = key then val else s y
section
variable {P : Program} {kt et : TypeId} {w : World} {b n : Nat} {X : Type} {kv : X → Value} {s : X → Bool}
theorem SetK.made (w : World) : SetK kv P kt et (w.alloc (.map #[] 0)) w.heap.size 0 (fun _ => false) :=
  ⟨.map [], World.ownsMap_made w P kt _, fun _ _ _ => rfl⟩
theorem SetK.lt (h : SetK kv P kt et w b n s) : b < w.heap.size := by obtain ⟨D, h, _⟩ := h; exact h.lt
theorem SetK.below {m : Nat} {w' : World} (h : SetK kv P kt et w b n s) (hb : Below m w w') (hm : w.heap.size ≤ m) : SetK kv P kt et w' b n s := by
  obtain ⟨D, h, hs⟩ := h
  have hlt := h.lt
  obtain ⟨es, clock, hbb, F, hsz, hD⟩ := h
  exact ⟨D, ⟨es, clock, (hb.block b (by omega)).trans hbb, F, hsz, hD⟩, hs⟩
theorem SetK.block {w' : World} (h : SetK kv P kt et w b n s) (hb : w'.heap[b]? = w.heap[b]?) : SetK kv P kt et w' b n s := by
  obtain ⟨D, h, hs⟩ := h
  obtain ⟨es, clock, hbb, F, hsz, hD⟩ := h
  exact ⟨D, ⟨es, clock, hb.trans hbb, F, hsz, hD⟩, hs⟩
theorem SetK.kept {w' : World} {row : Option Nat} (h : SetK kv P kt et w b n s) (hg : w.grownBy w' row) (hne : some b ≠ row) : SetK kv P kt et w' b n s := by
  obtain ⟨D, h, hs⟩ := h
  exact ⟨D, h.kept hg hne, hs⟩
theorem SetK.alloc (h : SetK kv P kt et w b n s) (o : Obj) : SetK kv P kt et (w.alloc o) b n s := h.kept (World.grownBy_alloc w o none) (by simp)
theorem SetK.drewN (h : SetK kv P kt et w b n s) (m : Nat) : SetK kv P kt et (w.drewN m) b n s := h
theorem SetK.heap (h : SetK kv P kt et w b n s) : ∃ es c, w.heap[b]? = some (.map es c) := by obtain ⟨D, ⟨es, c, hb, _⟩, _⟩ := h; exact ⟨es, c, hb⟩
/-- the look-up's run -/
theorem SetK.look (h : SetK kv P kt et w b n s) (K : Keyed P kt) {t : TypeId} (ht : P.underlying t = some (.map kt et)) (he : P.underlying et = some .bool) (hz : (zeroValue et).run P w = .ok (.bool false) w) {key : X} {l : Lit} (hkey : keyOf P kt (kv key) = some l) :
    (Instr.lookup t (.map (some b)) (kv key) false).run P w = .ok (.bool (s key)) w := by
  obtain ⟨D, hown, hs⟩ := h
  obtain ⟨v, ps, hrun, hv⟩ := hown.lookup K ht hz (plainElem_bool he false) hkey
  obtain ⟨c, rfl, hc⟩ := plainElem_bool_inv' he hv
  simp only [Prod.mk.injEq] at hc
  rw [hs key l hkey] at hc
  have hcs : c = s key := by have := hc.1; injection this with h1; injection h1 with h2; exact h2.symm
  rw [hcs] at hrun
  exact hrun
theorem wpList_update_setK [DecidableEq X] {ops : Array Oper} {rest : List Oper} {o : Oper} {a : Act} {Q : Exit → Act → World → Prop}
    (hg : o.guard = none) (m x v : Operand) (t : TypeId) (hop : o.op = Op.mapUpdate t m x v)
    (K : Keyed P kt) (ht : P.underlying t = some (.map kt et)) (he : P.underlying et = some .bool)
    (hm : a.eval m = .map (some b)) (hown : SetK kv P kt et w b n s) (hn : n < maxLen) (hinj : ∀ x y, kv x = kv y → x = y) (key : X) (l : Lit) (hx : a.eval x = kv key) (hkey : keyOf P kt (kv key) = some l) (val : Bool) (hv : a.eval v = .bool val)
    (hK : ∀ w', SetK kv P kt et w' b (n + 1) (updK s key val) → w.grownBy w' (some b) → wpList P ops Q rest (a.put o.dst undef) w') :
    wpList P ops Q (o :: rest) a w := by
  obtain ⟨D, hown, hs⟩ := hown
  unfold updK at hK
  refine wpList_mapUpdate_own w hg m x v t hop kt et K ht _ b n D hm hown hn _ _ _ hx hv hkey _ [] (plainElem_bool he val) fun w' h1 h2 => hK w' ⟨_, h1, fun y l' hy => ?_⟩ h2
  by_cases e : y = key
  · subst e
    rw [hkey] at hy
    cases hy
    rw [Maps.atKey_put_same hown.isMap (K.key hkey)]; simp only [if_pos]
  · have hne : l' ≠ l := fun e' => e (hinj _ _ (K.inj hy (by rw [e']; exact hkey)))
    rw [Maps.atKey_put_other hne, hs y l' hy]; simp only [if_neg e]
end
end Go.Proofs.Ytgaanndidcdbpaa
