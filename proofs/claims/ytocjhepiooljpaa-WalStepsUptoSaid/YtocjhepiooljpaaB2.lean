/- Appends of records onto a list of records that the call made. -/
import Derived.Test.YtocjhepiooljpaaB1
import Derived.Test.YtocjhepiooljpaaT13
namespace Go.Proofs.Ytocjhepiooljpaa
open Go.RowKit Go.Deep Go.Shelf

/-- a list of records that was made behind base; its records lie elsewhere, in M -/
def RowsR (w : World) (base : Nat) (M : Nat → Prop) (v : Value) (ss : List (List UInt8)) : Prop := ∃ vals : List Value, w.ownsRow base 35 1 v ss.length vals ∧ ∀ i, i < ss.length → IsBytes w (fun b => M b ∧ v.ownBlock ≠ some b) (vals.getD i .nilIface) (ss.getD i [])
theorem own_lt {w : World} {base e sz n : Nat} {v : Value} {xs : List Value} (h : w.ownsRow base e sz v n xs) (k : Nat) (hk : v.ownBlock = some k) : k < w.heap.size := by
  rcases h.2 with ⟨rfl, _⟩ | ⟨g, cap, cur, rfl, hg, hgb, _⟩
  · cases hk
  · simp [Value.ownBlock] at hk
    subst hk
    exact lt_heap hgb
section
variable {w w' W0 : World} {base m : Nat} {M M' : Nat → Prop} {v u : Value} {ss : List (List UInt8)}
theorem own_grow {e sz n : Nat} {xs : List Value} (h : w.ownsRow base e sz v n xs) (hb : Below m w w') (hm : w.heap.size ≤ m) : w'.ownsRow base e sz v n xs :=
  ⟨h.1, by
    rcases h.2 with ⟨rfl, hx⟩ | ⟨g, cap, cur, rfl, hg, hgb, rest⟩
    · exact .inl ⟨rfl, hx⟩
    · exact .inr ⟨g, cap, cur, rfl, hg, (hb.block g (Nat.lt_of_lt_of_le (lt_heap hgb) hm)).trans hgb, rest⟩⟩
theorem RowsR.grow (h : RowsR w base M v ss) (hb : Below m w w') (hm : w.heap.size ≤ m) : RowsR w' base M v ss := by
  obtain ⟨vals, h1, h2⟩ := h
  exact ⟨vals, own_grow h1 hb hm, fun i hi => (h2 i hi).keep fun p _ hp => hb.cell (Nat.lt_of_lt_of_le hp hm)⟩
theorem RowsR.below (h : RowsR w base M v ss) (hb : Below w.heap.size w w') : RowsR w' base M v ss := h.grow hb (Nat.le_refl _)
theorem RowsR.mono (h : RowsR w base M v ss) (hM : ∀ b, b < w.heap.size → M b → M' b) : RowsR w base M' v ss := by
  obtain ⟨vals, h1, h2⟩ := h
  exact ⟨vals, h1, fun i hi => (h2 i hi).mono fun b hb h => ⟨hM b hb h.1, h.2⟩⟩
theorem RowsR.mat (h : RowsR w base M v ss) (hM : ∀ b, base ≤ b → M' b) (hM2 : ∀ b, b < w.heap.size → M b → M' b) : IsMat w M' v ss := by
  obtain ⟨vals, h1, h2⟩ := h
  exact mat_of_own h1 rfl (fun i hi => (h2 i hi).mono fun b hb h => hM2 b hb h.1) hM
theorem RowsR.nil : RowsR w base M (.slice none 0 0) [] := ⟨[], ⟨rfl, .inl ⟨rfl, rfl⟩⟩, fun i hi => absurd hi (by simp)⟩
theorem RowsR.empty {g : Nat} (hg : w.heap[g]? = some (.cells #[] 35 (0, 0))) (hb : base ≤ g) : RowsR w base M (.slice (some ⟨g, 0, none⟩) 0 0) [] := ⟨[], own_empty hg hb, fun i hi => absurd hi (by simp)⟩
theorem RowsR.len (h : RowsR w base M v ss) : ∃ A c, v = .slice A ss.length c ∧ ss.length ≤ c ∧ c ≤ 9223372036854775807 := by
  obtain ⟨vals, h1, -⟩ := h
  obtain ⟨A, c, e, h2, h3, -⟩ := own_cells1 h1
  exact ⟨A, c, e, h2, h3⟩
/-- one record more -/
theorem RowsR.push {v' : Value} {b : List UInt8} {vals : List Value} (h1 : w.ownsRow base 35 1 v ss.length vals) (h2 : ∀ i, i < ss.length → IsBytes w (fun b => M b ∧ v.ownBlock ≠ some b) (vals.getD i .nilIface) (ss.getD i [])) (hu : IsBytes w (fun k => M k ∧ v.ownBlock ≠ some k) u b)
    (hO : w'.ownsRow base 35 1 v' (ss.length + 1) (vals ++ [u])) (hg : w.grownBy w' v.ownBlock) (hv : v'.ownBlock = v.ownBlock ∨ v'.ownBlock = some w.heap.size) : RowsR w' base M v' (ss ++ [b]) := by
  have hlen : vals.length = ss.length := by have := h1.1; omega
  have tr : ∀ {x : Value} {bs : List UInt8}, IsBytes w (fun k => M k ∧ v.ownBlock ≠ some k) x bs → IsBytes w' (fun k => M k ∧ v'.ownBlock ≠ some k) x bs := fun {x bs} h => by
    refine IsBytes.mono (M := fun k => (M k ∧ v.ownBlock ≠ some k) ∧ k < w.heap.size) ?_ fun k _ hk => ⟨hk.1.1, ?_⟩
    · refine (h.mono (M' := fun k => (M k ∧ v.ownBlock ≠ some k) ∧ k < w.heap.size) fun k hk hM => ⟨hM, hk⟩).keep fun p hp hl => ?_
      exact World.cell?_of_block (hg.block p.block hl (fun e => hp.1.2 e.symm))
    · rcases hv with e | e
      · rw [e]; exact hk.1.2
      · rw [e]; intro e2; injection e2 with e2; omega
  refine ⟨vals ++ [u], by rw [List.length_append]; exact hO, fun i hi => ?_⟩
  rw [List.length_append, List.length_singleton] at hi
  by_cases hl : i < ss.length
  · have := tr (h2 i hl)
    simpa [List.getD_eq_getElem?_getD, List.getElem?_append_left hl, List.getElem?_append_left (show i < vals.length by omega)] using this
  · obtain rfl : i = ss.length := by omega
    have := tr hu
    simpa [List.getD_eq_getElem?_getD, ← hlen] using this
end
section
variable {ops : Array Oper} {o : Oper} {a : Act} {rest : List Oper} {Q : Exit → Act → World → Prop} {E : Prop} {w W0 : World} {K : Act → World → Prop} {M : Nat → Prop}
theorem wpList_appR (hgd : o.guard = none) (s x : Operand) (ho : o.op = .call { callee := .builtin .append, args := #[s, x], argTypes := #[22, 22] }) (base m : Nat) (v u : Value) (ss : List (List UInt8)) (b : List UInt8) (hs : a.eval s = v) (hr : RowsR w base M v ss)
    (hu : IsBytes w (fun k => M k ∧ v.ownBlock ≠ some k) u b) (g c : Nat) (hx : a.eval x = .slice (some ⟨g, 0, none⟩) 1 c) (hgc : w.cell? ⟨g, 0, none⟩ = some u) (hl : (ss.length + 1) * 24 ≤ 140737488355328) (hbase : base ≤ w.heap.size) (hm : m ≤ base) (hB : Below m W0 w)
    (h : ∀ v' w', Hid (RowsR w' base M v' (ss ++ [b])) → Hid (Below m W0 w') → Hid (base ≤ w'.heap.size) → wpList Try.prog ops Q rest (a.put o.dst v') w') : wpList Try.prog ops Q (o :: rest) a w := by
  obtain ⟨i, hi, hz0, hz1, hz2⟩ := info_parts Try.infoSl
  obtain ⟨vals, h1, h2⟩ := id hr
  have hu1 : u.oneCell' = true := one_of_bytes hu
  refine wpList_append_cells w hgd s x 22 ho base 35 i (.slice none 0 0) 1 24 Try.underlying22 hi hz0 hz1 hz2 rfl (by decide) v ss.length vals hs h1 (some ⟨g, 0, none⟩) 1 c [u] hx rfl (fun _ => ⟨_, rfl, fun j y hj => ?_⟩) (by intro y hy; rw [List.mem_singleton.1 hy]; exact hu1) (by unfold maxLen; omega) hl hbase ?_
  · have hj0 : j = 0 := by have := (List.getElem?_eq_some_iff.1 hj).1; simp at this; exact this
    subst hj0
    simp at hj
    subst hj
    rw [addr_add]
    exact hgc
  intro v' w' h3 h4 h5
  have h6 : Below m W0 w' := hB.grown h4 (by omega) (fun k e => by
    have := own_ge h1 e
    omega)
  refine h v' w' ?_ h6 (Nat.le_trans hbase h4.size)
  exact RowsR.push h1 h2 hu h3 h4 h5
end
end Go.Proofs.Ytocjhepiooljpaa
