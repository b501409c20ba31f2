/- A table of numbers: rows of their own, in a row of their own. For any seat. -/
import Derived.Test.YtbkgkgigcohbpaaAp
import Derived.Deep.OwnRows
namespace Go.Proofs.Ytbkgkgigcohbpaa
open Go.RowKit
/-- a slice of u64's -/
def IsNs (w : World) (M : Nat → Prop) (v : Value) (xs : List Nat) : Prop := IsSl w M 1 v xs.length (fun i _ => .int .u64 ((xs.getD i 0 : Nat) : Int))
/-- a slice of such slices -/
def IsTab (w : World) (M : Nat → Prop) (v : Value) (rows : List (List Nat)) : Prop := ∃ S : Nat → Value, IsSl w M 1 v rows.length (fun r _ => S r) ∧ ∀ r, r < rows.length → IsNs w M (S r) (rows.getD r [])
theorem IsNs.below {w w' : World} {M : Nat → Prop} {v : Value} {xs : List Nat} (h : IsNs w M v xs) (hb : Below w.heap.size w w') : IsNs w' M v xs := IsSl.below h hb
theorem IsTab.below {w w' : World} {M : Nat → Prop} {v : Value} {rows : List (List Nat)} (h : IsTab w M v rows) (hb : Below w.heap.size w w') : IsTab w' M v rows := by
  obtain ⟨S, h1, h2⟩ := h
  exact ⟨S, h1.below hb, fun r hr => (h2 r hr).below hb⟩
theorem IsTab.mono {w : World} {M M' : Nat → Prop} {v : Value} {rows : List (List Nat)} (h : IsTab w M v rows) (hM : ∀ b, b < w.heap.size → M b → M' b) : IsTab w M' v rows := by
  obtain ⟨S, h1, h2⟩ := h
  exact ⟨S, IsSl.mono h1 hM (by decide), fun r hr => IsSl.mono (h2 r hr) hM (by decide)⟩
theorem IsTab.nil {w : World} {M : Nat → Prop} : IsTab w M (.slice none 0 0) [] := ⟨fun _ => .nilIface, IsSl.nil, fun r hr => absurd hr (by simp)⟩
def rowV (B : Nat → Nat) (n r : Nat) : Value := .slice (some ⟨B r, 0, none⟩) n n
def rowsV (B : Nat → Nat) (n m : Nat) : List Value := (List.range m).map (rowV B n)
theorem rowsV_len (B : Nat → Nat) (n m : Nat) : (rowsV B n m).length = m := by simp [rowsV]
/-- m rows of n numbers; the blocks of the rows are new from base on -/
structure TabW (w : World) (base : Nat) (eo ei : TypeId) (v : Value) (m n : Nat) (B : Nat → Nat) (T : Nat → Nat → Nat) : Prop where
  own : w.ownsRow base eo 1 v m (rowsV B n m)
  ge : ∀ r, r < m → base ≤ B r
  lt : ∀ r, r < m → B r < w.heap.size
  inj : ∀ r q, r < m → q < m → B r = B q → r = q
  row : ∀ r, r < m → w.rowIs (B r) ei n (fun c => .int .u64 (T r c : Int))
namespace TabW
variable {w w' w'' : World} {base m n : Nat} {eo ei : TypeId} {v : Value} {B : Nat → Nat} {T T' : Nat → Nat → Nat}
theorem nil (w : World) (base : Nat) (eo ei : TypeId) (n : Nat) (B : Nat → Nat) (T : Nat → Nat → Nat) : TabW w base eo ei (.slice none 0 0) 0 n B T :=
  ⟨own_nil _ _ _ _, fun _ h => absurd h (by omega), fun _ h => absurd h (by omega), fun _ _ h => absurd h (by omega), fun _ h => absurd h (by omega)⟩
theorem below (h : TabW w base eo ei v m n B T) (hb : Below w.heap.size w w') : TabW w' base eo ei v m n B T := by
  refine ⟨?_, h.ge, fun r hr => Nat.lt_of_lt_of_le (h.lt r hr) hb.size, h.inj, fun r hr => (h.row r hr).of_block (hb.block _ (h.lt r hr))⟩
  obtain ⟨h1, h2⟩ := h.own
  refine ⟨h1, ?_⟩
  rcases h2 with h2 | ⟨r, cap, cur, hv, hbb, hh, rest⟩
  · exact .inl h2
  · exact .inr ⟨r, cap, cur, hv, hbb, (hb.block r (lt_heap hh)).trans hh, rest⟩
/-- the outer row is none of the rows -/
theorem outer_ne (h : TabW w base eo ei v m n B T) (hne : ei ≠ eo) {r : Nat} (hr : r < m) : v.ownBlock ≠ some (B r) := by
  obtain ⟨-, h2⟩ := h.own
  rcases h2 with ⟨rfl, -⟩ | ⟨g, cap, cur, rfl, -, hh, -⟩
  · simp [Value.ownBlock]
  · intro e
    have e' : g = B r := by simpa [Value.ownBlock] using e
    obtain ⟨c, hb, -, -⟩ := h.row r hr
    rw [e', hb] at hh
    injection hh with hh
    injection hh with _ h4
    exact hne h4
theorem own_set_b {w : World} {base e sz n b : Nat} {v : Value} {xs : List Value} (h : w.ownsRow base e sz v n xs) (hb : v.ownBlock ≠ some b) (j : Nat) (u : Value) : (w.setCell ⟨b, j, none⟩ u).ownsRow base e sz v n xs := by
  obtain ⟨h1, h2⟩ := h
  refine ⟨h1, ?_⟩
  rcases h2 with h2 | ⟨r, cap, cur, rfl, hbb, hh, rest⟩
  · exact .inl h2
  · refine .inr ⟨r, cap, cur, rfl, hbb, ?_, rest⟩
    rw [heap_set_if, if_neg (fun e => hb (by rw [← e]; rfl))]
    exact hh
/-- a store into a row -/
theorem set (h : TabW w base eo ei v m n B T) (hne : ei ≠ eo) {i : Nat} (hi : i < m) (j x : Nat) (hT : ∀ r c, r < m → c < n → T' r c = if r = i ∧ c = j then x else T r c) : TabW (w.setCell ⟨B i, j, none⟩ (.int .u64 (x : Int))) base eo ei v m n B T' := by
  refine ⟨own_set_b h.own (h.outer_ne hne hi) _ _, h.ge, fun r hr => by simpa [World.setCell] using h.lt r hr, h.inj, fun r hr => ?_⟩
  by_cases e : r = i
  · subst e
    refine ((h.row r hr).set j _).congr fun c hc => ?_
    rw [hT r c hr hc]
    by_cases e2 : c = j
    · rw [if_pos e2, if_pos ⟨rfl, e2⟩]
    · rw [if_neg e2, if_neg (fun hh => e2 hh.2)]
  · refine ((h.row r hr).setOther (fun e2 => e (h.inj r i hr hi e2)) _).congr fun c hc => ?_
    rw [hT r c hr hc, if_neg (fun hh => e hh.1)]
/-- a store elsewhere -/
theorem setOther (h : TabW w base eo ei v m n B T) {b : Nat} (hb : v.ownBlock ≠ some b) (hr : ∀ r, r < m → B r ≠ b) (j : Nat) (u : Value) : TabW (w.setCell ⟨b, j, none⟩ u) base eo ei v m n B T :=
  ⟨own_set_b h.own hb _ _, h.ge, fun r hr => by simpa [World.setCell] using h.lt r hr, h.inj, fun r hrm => (h.row r hrm).setOther (hr r hrm) _⟩
/-- one more row, appended -/
theorem push {b : Nat} {v' : Value} (h : TabW w base eo ei v m n B T) (hne : ei ≠ eo) (hb : w.heap.size ≤ b) (hgrow : World.grownBy w' w'' v.ownBlock) (hw : Below w.heap.size w w') (hrow : w'.rowIs b ei n (fun c => .int .u64 (T' m c : Int)))
    (hown : w''.ownsRow base eo 1 v' (m + 1) (rowsV B n m ++ [.slice (some ⟨b, 0, none⟩) n n])) (hbase : base ≤ b) (hT : ∀ r c, r < m → T' r c = T r c) : TabW w'' base eo ei v' (m + 1) n (fun r => if r = m then b else B r) T' := by
  have h' := h.below hw
  refine ⟨?_, fun r hr => ?_, fun r hr => ?_, fun r q hr hq e => ?_, fun r hr => ?_⟩
  · have : rowsV (fun r => if r = m then b else B r) n (m + 1) = rowsV B n m ++ [.slice (some ⟨b, 0, none⟩) n n] := by
      unfold rowsV
      rw [List.range_succ, List.map_append]
      congr 1
      · refine List.map_congr_left fun r hr => ?_
        unfold rowV
        dsimp only
        rw [if_neg (by have := List.mem_range.1 hr; omega)]
      · simp [rowV]
    rw [this]; exact hown
  · show base ≤ if r = m then b else B r
    split
    · exact hbase
    · exact h.ge r (by omega)
  · show (if r = m then b else B r) < _
    have hs := hgrow.size
    split
    · have := hrow.lt; omega
    · have := h'.lt r (by omega); omega
  · have e : (if r = m then b else B r) = if q = m then b else B q := e
    have l1 : ∀ x, x < m → B x < b := fun x hx => Nat.lt_of_lt_of_le (h.lt x hx) hb
    split at e
    · split at e
      · omega
      · have := l1 q (by omega); omega
    · split at e
      · have := l1 r (by omega); omega
      · exact h.inj r q (by omega) (by omega) e
  · show w''.rowIs (if r = m then b else B r) ei n _
    split
    · next e =>
      subst e
      refine hrow.of_block (hgrow.block b hrow.lt fun e => ?_)
      obtain ⟨-, h2⟩ := h.own
      rcases h2 with ⟨rfl, -⟩ | ⟨g, cap, cur, rfl, -, hh, -⟩
      · simp [Value.ownBlock] at e
      · have e' : b = g := by simpa [Value.ownBlock] using e
        have := lt_heap hh
        omega
    · have hr' : r < m := by omega
      refine ((h'.row r hr').of_block (hgrow.block _ (h'.lt r hr') fun e => h.outer_ne hne hr' e.symm)).congr fun c _ => ?_
      rw [hT r c hr']
/-- the outer row as a slice -/
theorem cellAt (h : TabW w base eo ei v m n B T) {i : Nat} (hi : i < m) : ∃ o cap, v = .slice (some ⟨o, 0, none⟩) m cap ∧ w.cell? ⟨o, i, none⟩ = some (.slice (some ⟨B i, 0, none⟩) n n) := by
  obtain ⟨-, h2⟩ := h.own
  rcases h2 with ⟨-, e⟩ | ⟨g, cap, cur, rfl, -, hh, -, -, -, ht⟩
  · omega
  · refine ⟨g, cap, rfl, cell_of hh ?_⟩
    have hx : (cur.toList.take (m * 1))[i]? = some (rowV B n i) := by
      rw [ht]; unfold rowsV
      rw [List.getElem?_map, List.getElem?_range hi]; rfl
    rw [List.getElem?_take_of_lt (by omega)] at hx
    simpa [rowV] using hx
theorem isNs {w : World} {b n : Nat} {ei : TypeId} {f : Nat → Nat} {M : Nat → Prop} (h : w.rowIs b ei n (fun c => .int .u64 (f c : Int))) (hn : n ≤ 9223372036854775807) (hM : M b) : IsNs w M (.slice (some ⟨b, 0, none⟩) n n) ((List.range n).map f) := by
  refine ⟨some ⟨b, 0, none⟩, n, by simp, by simp, hn, ?_⟩
  intro _
  refine ⟨b, 0, rfl, hM, fun i j hi hj => ?_⟩
  obtain rfl : j = 0 := by omega
  rw [List.length_map, List.length_range] at hi
  rw [Nat.zero_add, Nat.mul_one, Nat.add_zero, h.cell hi]
  simp [List.getD_eq_getElem?_getD, hi]
end TabW
end Go.Proofs.Ytbkgkgigcohbpaa
