/- The last rounds of Paths: what is taken from the arcs of a path; rows beside an own row of ints. -/
import Derived.Test.YtikddknhcfhnbaaG1
import Derived.Test.YtikddknhcfhnbaaZ2
namespace Go.Proofs.Ytikddknhcfhnbaa
open Go.RowKit Go.Deep
/-- the cells behind one more arc -/
theorem subL_cells {n lk : Nat} {w w' : World} {lf : Nat → Int} {a y : Int} {p : List Int} {k i : Nat} (hk : k < p.length) (hi : nthI p k = (i : Int)) (hy : y = subL lf a (p.take k) i - a)
    (h : ∃ cs t, w.heap[lk]? = some (.cells cs t (0, 0)) ∧ ∀ i, i < n → cs[i]? = some (i64v (subL lf a (p.take k) i))) (hw : w'.heap[lk]? = (w.setCell ⟨lk, i, none⟩ (.int .i64 y)).heap[lk]?) :
    ∃ cs t, w'.heap[lk]? = some (.cells cs t (0, 0)) ∧ ∀ i, i < n → cs[i]? = some (i64v (subL lf a (p.take (k + 1)) i)) := by
  obtain ⟨cs, t, h1, h2⟩ := h
  refine ⟨cs.setIfInBounds i (.int .i64 y), t, by rw [hw, heap_set_if, if_pos rfl, h1]; rfl, fun j hj => ?_⟩
  rw [take_snoc hk, subL_snoc, hi, Int.toNat_natCast, Array.getElem?_setIfInBounds]
  have h3 := h2 j hj
  by_cases e : i = j
  · subst e
    have hlt : i < cs.size := (Array.getElem?_eq_some_iff.1 h3).1
    rw [if_pos rfl, if_pos hlt, hy]
    simp [updI, i64v]
  · rw [if_neg e, h3]
    simp only [updI]
    rw [if_neg (fun e2 => e e2.symm)]
section
variable {ops : Array Oper} {rest : List Oper} {o : Oper} {a : Act} {w : World} {Q : Exit → Act → World → Prop}
/-- append of one int onto an own row, and where it lies then -/
theorem wpList_int2 (hg : o.guard = none) (s x : Operand) (hop : o.op = .call { callee := .builtin .append, args := #[s, x], argTypes := #[25, 25] })
    (base : Nat) (l : List Int) (y : Int) {v : Value} {b : Nat} {c : Nat} (hs : a.eval s = v) (hown : w.ownsRow base 3 1 v l.length (l.map i64v)) (hx : a.eval x = .slice (some ⟨b, 0, none⟩) 1 c) (hc : w.cell? ⟨b, 0, none⟩ = some (.int .i64 y)) (hl : l.length < 100000) (hbase : base ≤ w.heap.size)
    (h : ∀ A d w', Hid (w'.ownsRow base 3 1 (.slice A (l ++ [y]).length d) (l ++ [y]).length ((l ++ [y]).map i64v) ∧ Below base w w' ∧ (∀ k, k < w.heap.size → v.ownBlock ≠ some k → w'.heap[k]? = w.heap[k]?) ∧ ∀ k, k < w.heap.size → v.ownBlock ≠ some k → (Value.slice A (l ++ [y]).length d).ownBlock ≠ some k) → wpList Try.prog ops Q rest (a.put o.dst (.slice A (l ++ [y]).length d)) w') : wpList Try.prog ops Q (o :: rest) a w := by
  obtain ⟨i, hi, hz, hsz, hb⟩ := info_parts Try.infoI64
  refine wpList_append_cells w hg s x 25 hop base 3 i _ 1 8 Try.underlying25 hi hz hsz hb rfl (by decide) v l.length (l.map i64v) hs hown (some ⟨b, 0, none⟩) 1 c [i64v y] hx rfl (fun _ => ⟨_, rfl, fun j u hj => ?_⟩) (one_i64 y) (by unfold maxLen; omega) (by omega) hbase fun v' w' h1 h2 h3 => ?_
  · have hj0 : j = 0 := by have := (List.getElem?_eq_some_iff.1 hj).1; simp at this; exact this
    subst hj0
    have hu : u = i64v y := by simpa using hj.symm
    subst hu
    rw [addr_add]; exact hc
  · obtain ⟨A, d, rfl⟩ := own_sl h1
    have h6 := h A d w'
    rw [show (l ++ [y]).length = l.length + 1 by simp] at h6
    refine h6 (Lib.hid ⟨by rw [List.map_append]; exact h1, (Below.refl base w).grown h2 hbase fun k e => (own_lt hown k e).1, fun k hk hne => h2.block k hk fun e => hne e.symm, fun k hk hne e => ?_⟩)
    rcases h3 with h3 | h3
    · exact hne (h3 ▸ e)
    · rw [h3] at e
      injection e with e
      omega
end
theorem KF.less {N B B' bu bp : Nat} {w w' : World} (h : KF N B bu bp w w') (hB : B' ≤ B) : KF N B' bu bp w w' := ⟨h.bel, fun k a c d => h.blk k (Nat.lt_of_lt_of_le a hB) c d⟩
/-- rows beside an own row of ints that grew -/
theorem grow_both {w1 w2 : World} {lk base : Nat} {A4 A5 A5' : Option Addr} {n4 n5 n5' c4 c5 c5' : Nat} {ps : List (List Int)} {xs : List Value}
    (h1 : RowsW w1 (fun b => b ≠ lk ∧ (Value.slice A5 n5 c5).ownBlock ≠ some b) base (.slice A4 n4 c4) ps) (k1 : w1.ownsRow base 3 1 (.slice A5 n5 c5) n5 xs)
    (k2 : ∀ k, k < w1.heap.size → (Value.slice A5 n5 c5).ownBlock ≠ some k → w2.heap[k]? = w1.heap[k]?) (k3 : ∀ k, k < w1.heap.size → (Value.slice A5 n5 c5).ownBlock ≠ some k → (Value.slice A5' n5' c5').ownBlock ≠ some k) :
    RowsW w2 (fun b => b ≠ lk ∧ (Value.slice A5' n5' c5').ownBlock ≠ some b) base (.slice A4 n4 c4) ps := by
  have g := (h1.mono (X' := fun b => b < w1.heap.size ∧ b ≠ lk ∧ (Value.slice A5 n5 c5).ownBlock ≠ some b) fun b hb h => ⟨hb, h⟩).kp (w' := w2) (fun k hk hX => k2 k hk hX.2.2) (fun b hb hl => k2 b hl fun e => h1.ne k1 b e hb)
  exact g.mono fun b _ h => ⟨h.2.1, k3 b h.1 h.2.2⟩
end Go.Proofs.Ytikddknhcfhnbaa
