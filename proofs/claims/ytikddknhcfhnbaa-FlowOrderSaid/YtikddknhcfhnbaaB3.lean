/- Rows of ints at the cells of one block: each row is the call's own. -/
import Derived.Test.YtikddknhcfhnbaaB2
import Derived.Test.YtikddknhcfhnbaaAp
import Derived.Test.YtikddknhcfhnbaaRep
import Derived.Deep.RegionLaw
import Derived.Deep.RegionHeld3
namespace Go.Proofs.Ytikddknhcfhnbaa
open Go.RowKit
theorem own_sl {w : World} {base e sz n : Nat} {v : Value} {xs : List Value} (h : w.ownsRow base e sz v n xs) : ∃ A c, v = .slice A n c := by
  obtain ⟨-, h2⟩ := h
  rcases h2 with ⟨rfl, rfl⟩ | ⟨b, cap, cur, rfl, -⟩
  · exact ⟨none, 0, rfl⟩
  · exact ⟨_, _, rfl⟩
theorem own_lt {w : World} {base e sz n : Nat} {v : Value} {xs : List Value} (h : w.ownsRow base e sz v n xs) : ∀ g, v.ownBlock = some g → base ≤ g ∧ g < w.heap.size := by
  intro g hg
  rcases h.2 with ⟨rfl, _⟩ | ⟨b, cap, cur, rfl, hb, hh, _⟩
  · simp [Value.ownBlock] at hg
  · simp [Value.ownBlock] at hg; subst hg; exact ⟨hb, lt_heap hh⟩
theorem own_kept {w w' : World} {base e sz n : Nat} {v : Value} {xs : List Value} (h : w.ownsRow base e sz v n xs) (hk : ∀ b, v.ownBlock = some b → b < w.heap.size → w'.heap[b]? = w.heap[b]?) : w'.ownsRow base e sz v n xs := by
  obtain ⟨h1, h2⟩ := h
  refine ⟨h1, ?_⟩
  rcases h2 with h2 | ⟨r, cap, cur, rfl, hbb, hh, rest⟩
  · exact .inl h2
  · exact .inr ⟨r, cap, cur, rfl, hbb, (hk r rfl (lt_heap hh)).trans hh, rest⟩
def updV {α : Type} (f : Nat → α) (i : Nat) (x : α) (j : Nat) : α := if j = i then x else f j
theorem updV_same {α : Type} (f : Nat → α) (i : Nat) (x : α) : updV f i x i = x := if_pos rfl
theorem updV_other {α : Type} {f : Nat → α} {i j : Nat} {x : α} (h : j ≠ i) : updV f i x j = f j := if_neg h
/-- cell v of block g holds the row F v, for the first n cells -/
structure AdjW (w : World) (base g n : Nat) (X : Nat → Value) (F : Nat → List Int) : Prop where
  box : ∃ cs t, w.heap[g]? = some (.cells cs t (0, 0)) ∧ ∀ v, v < n → cs[v]? = some (X v)
  own : ∀ v, v < n → w.ownsRow base 3 1 (X v) (F v).length ((F v).map i64v)
  sep : ∀ u v, u < n → v < n → u ≠ v → ∀ b, (X u).ownBlock = some b → (X v).ownBlock ≠ some b
  lt : g < base
section
variable {w w' W : World} {base g n : Nat} {X : Nat → Value} {F : Nat → List Int}
theorem AdjW.cell (h : AdjW w base g n X F) {v : Nat} (hv : v < n) : w.cell? ⟨g, v, none⟩ = some (X v) := by
  obtain ⟨cs, t, h1, h2⟩ := h.box
  exact cell_of h1 (h2 v hv)
theorem AdjW.frz (h : AdjW w base g n X F) (v : Nat) : w.frozen? ⟨g, v, none⟩ = false := by
  obtain ⟨cs, t, h1, -⟩ := h.box
  exact frz_at h1
/-- the blocks of the rows and the box are as they were -/
theorem AdjW.keep (h : AdjW w base g n X F) (hg : w'.heap[g]? = w.heap[g]?) (hk : ∀ b, base ≤ b → b < w.heap.size → w'.heap[b]? = w.heap[b]?) : AdjW w' base g n X F := by
  obtain ⟨cs, t, h1, h2⟩ := h.box
  exact ⟨⟨cs, t, hg.trans h1, h2⟩, fun v hv => own_kept (h.own v hv) fun b hb hl => hk b (own_lt (h.own v hv) b hb).1 hl, h.sep, h.lt⟩
theorem AdjW.glt (h : AdjW w base g n X F) : g < w.heap.size := by
  obtain ⟨cs, t, h1, -⟩ := h.box
  exact lt_heap h1
theorem AdjW.below (h : AdjW w base g n X F) (hb : Below w.heap.size w w') : AdjW w' base g n X F := h.keep (hb.block _ h.glt) fun b _ hl => hb.block b hl
/-- a store beside the rows and the box -/
theorem AdjW.beside (h : AdjW w base g n X F) {b : Nat} (hb : b ≠ g) (hl : b < base) (j : Nat) (u : Value) : AdjW (w.setCell ⟨b, j, none⟩ u) base g n X F :=
  h.keep (by rw [heap_set_if, if_neg fun e => hb e.symm]) fun c hc _ => by rw [heap_set_if, if_neg fun e => by omega]
/-- a store into the box, beside the rows' cells -/
theorem AdjW.above (h : AdjW w base g n X F) {j : Nat} (hj : n ≤ j) (u : Value) : AdjW (w.setCell ⟨g, j, none⟩ u) base g n X F := by
  obtain ⟨cs, t, h1, h2⟩ := h.box
  refine ⟨⟨cs.setIfInBounds j u, t, by rw [heap_set_if, if_pos rfl, h1]; rfl, fun v hv => by rw [Array.getElem?_setIfInBounds_ne (by omega)]; exact h2 v hv⟩, fun v hv => own_kept (h.own v hv) fun b hb _ => ?_, h.sep, h.lt⟩
  have := (own_lt (h.own v hv) b hb).1
  have hl := h.lt
  rw [heap_set_if, if_neg (by omega)]
/-- one more int in row v -/
theorem AdjW.push (h : AdjW w base g n X F) {v : Nat} (hv : v < n) (hw : Below w.heap.size w W) {x : Value} {y : Int} (ho : w'.ownsRow base 3 1 x ((F v).length + 1) ((F v).map i64v ++ [i64v y])) (hg : W.grownBy w' (X v).ownBlock) (hx : x.ownBlock = (X v).ownBlock ∨ x.ownBlock = some W.heap.size) :
    AdjW (w'.setCell ⟨g, v, none⟩ x) base g n (updV X v x) (updV F v (F v ++ [y])) := by
  have H := h.below hw
  obtain ⟨cs, t, h1, h2⟩ := H.box
  have hgl := h.lt
  have hne : (X v).ownBlock ≠ some g := fun e => by have := (own_lt (H.own v hv) g e).1; omega
  have hbox : w'.heap[g]? = some (.cells cs t (0, 0)) := (hg.block g H.glt fun e => hne e.symm).trans h1
  have hset : ∀ b, base ≤ b → (w'.setCell ⟨g, v, none⟩ x).heap[b]? = w'.heap[b]? := fun b hb => by rw [heap_set_if, if_neg (by omega)]
  refine ⟨⟨cs.setIfInBounds v x, t, by rw [heap_set_if, if_pos rfl, hbox]; rfl, fun u hu => ?_⟩, fun u hu => ?_, fun p q hp hq hpq b e1 e2 => ?_, h.lt⟩
  · by_cases e : u = v
    · subst e
      have hsz : u < cs.size := (Array.getElem?_eq_some_iff.1 (h2 u hv)).1
      rw [updV_same, Array.getElem?_setIfInBounds_self_of_lt hsz]
    · rw [updV_other e, Array.getElem?_setIfInBounds_ne (fun e' => e e'.symm)]; exact h2 u hu
  · by_cases e : u = v
    · subst e
      rw [updV_same, updV_same, List.length_append, List.map_append]
      exact own_kept ho fun b hb _ => hset b (own_lt ho b hb).1
    · rw [updV_other e, updV_other e]
      refine own_kept (H.own u hu) fun b hb hl => ?_
      rw [hset b (own_lt (H.own u hu) b hb).1]
      exact hg.block b hl fun e2 => h.sep u v hu hv e b hb e2.symm
  · have hnew : ∀ c, x.ownBlock = some c → (X v).ownBlock = some c ∨ c = W.heap.size := fun c hc => by
      rcases hx with e | e
      · exact .inl (e ▸ hc)
      · exact .inr (by rw [e] at hc; injection hc with hc; exact hc.symm)
    have hold : ∀ u c, u < n → (X u).ownBlock = some c → c < W.heap.size := fun u c hu hc => (own_lt (H.own u hu) c hc).2
    by_cases ep : p = v
    · subst ep
      rw [updV_same] at e1
      rw [updV_other (fun e => hpq e.symm)] at e2
      rcases hnew b e1 with e | e
      · exact h.sep p q hp hq hpq b e e2
      · have := hold q b hq e2; omega
    · rw [updV_other ep] at e1
      by_cases eq : q = v
      · subst eq
        rw [updV_same] at e2
        rcases hnew b e2 with e | e
        · exact h.sep p q hp hq hpq b e1 e
        · have := hold p b hp e1; omega
      · rw [updV_other eq] at e2
        exact h.sep p q hp hq hpq b e1 e2
end
section
variable {ops : Array Oper} {o : Oper} {a : Act} {w : World} {K : Act → World → Prop} {Q : Exit → Act → World → Prop} {E : Prop}
/-- append of one int, where a region draws its order -/
theorem step_int (base : Nat) (l : List Int) (y : Int) {v : Value} {b : Nat} {c : Nat} (hown : w.ownsRow base 3 1 v l.length (l.map i64v)) (hc : w.cell? ⟨b, 0, none⟩ = some (.int .i64 y)) (hl : l.length < 100000) (hbase : base ≤ w.heap.size)
    (hgd : o.guard = none) (s x : Operand) (ho : o.op = .call { callee := .builtin .append, args := #[s, x], argTypes := #[25, 25] }) (hs : a.eval s = v) (hx : a.eval x = .slice (some ⟨b, 0, none⟩) 1 c)
    (h : ∀ A d w', Hid (w'.ownsRow base 3 1 (.slice A (l.length + 1) d) (l.length + 1) (l.map i64v ++ [i64v y]) ∧ w.grownBy w' v.ownBlock ∧ ((Value.slice A (l.length + 1) d).ownBlock = v.ownBlock ∨ (Value.slice A (l.length + 1) d).ownBlock = some w.heap.size)) → K (a.put o.dst (.slice A (l.length + 1) d)) w') :
    if Region.wanted o (yielded ops a.tmps) = true then Oper.wp Try.prog o a w K Q else E := by
  obtain ⟨i, hi, hz, hsz, hb⟩ := info_parts Try.infoI64
  refine step_append_cells w hgd s x 25 ho base 3 i _ 1 8 Try.underlying25 hi hz hsz hb rfl (by decide) v l.length (l.map i64v) hs hown (some ⟨b, 0, none⟩) 1 c [i64v y] hx rfl (fun _ => ⟨_, rfl, fun j u hj => ?_⟩) (one_i64 y) (by unfold maxLen; omega) (by omega) hbase fun v' w' h1 h2 h3 => ?_
  · have hj0 : j = 0 := by have := (List.getElem?_eq_some_iff.1 hj).1; simp at this; exact this
    subst hj0
    have hu : u = i64v y := by simpa using hj.symm
    subst hu
    rw [addr_add]; exact hc
  · obtain ⟨A, d, rfl⟩ := own_sl h1
    exact h A d w' (Lib.hid ⟨h1, h2, h3⟩)
end
end Go.Proofs.Ytikddknhcfhnbaa
