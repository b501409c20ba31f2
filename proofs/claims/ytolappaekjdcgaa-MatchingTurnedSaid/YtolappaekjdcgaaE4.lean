/- Rows of pairs, appended. (After the texts of chapter 26.) -/
import Derived.Test.YtolappaekjdcgaaL5
import Derived.Test.YtolappaekjdcgaaF1
import Derived.Deep.RegionLaw
import Derived.StillTailTactics
namespace Go.Proofs.Ytolappaekjdcgaa
open Go.RowKit
theorem own_sl {w : World} {base e sz n : Nat} {v : Value} {xs : List Value} (h : w.ownsRow base e sz v n xs) : ∃ A c, v = .slice A n c := by
  obtain ⟨-, h2⟩ := h
  rcases h2 with ⟨rfl, rfl⟩ | ⟨b, cap, cur, rfl, -⟩
  · exact ⟨none, 0, rfl⟩
  · exact ⟨_, _, rfl⟩
/-- pairs of ints, cell by cell -/
def rowE (l : List (Int × Int)) : List Value := l.flatMap fun e => [i64v e.1, i64v e.2]
theorem rowE_len : ∀ l : List (Int × Int), (rowE l).length = l.length * 2
  | [] => rfl
  | e :: l => by
    show (i64v e.1 :: i64v e.2 :: rowE l).length = _
    rw [List.length_cons, List.length_cons, List.length_cons, rowE_len l]; omega
theorem rowE_at : ∀ (l : List (Int × Int)) (i j : Nat), i < l.length → j < 2 → (rowE l)[i * 2 + j]? = some (edc (l.getD i (0, 0)) j)
  | [], i, _, h, _ => absurd h (by simp)
  | e :: l, 0, j, _, hj => by
    show (i64v e.1 :: i64v e.2 :: rowE l)[0 * 2 + j]? = _
    match j, hj with
    | 0, _ => rfl
    | 1, _ => rfl
  | e :: l, i + 1, j, h, hj => by
    show (i64v e.1 :: i64v e.2 :: rowE l)[(i + 1) * 2 + j]? = _
    rw [show (i + 1) * 2 + j = (i * 2 + j) + 2 by omega, List.getElem?_cons_succ, List.getElem?_cons_succ, rowE_at l i j (by simpa using h) hj]
    simp [List.getD_eq_getElem?_getD]
theorem edges_news {w : World} {M : Nat → Prop} {A : Option Addr} {n c : Nat} {l : List (Int × Int)} (h : IsEdges w M (.slice A n c) l) (hn : 0 < l.length) : ∃ ad, A = some ad ∧ ∀ j u, (rowE l)[j]? = some u → w.cell? (ad.add j) = some u := by
  obtain ⟨A', c', e, _, _, h3⟩ := h
  cases e
  obtain ⟨b, off, rfl, -, hc⟩ := h3 hn
  refine ⟨_, rfl, fun j u hj => ?_⟩
  have hjl : j < (rowE l).length := (List.getElem?_eq_some_iff.1 hj).1
  rw [rowE_len] at hjl
  rw [addr_add]
  have := hc (j / 2) (j % 2) (by omega) (by omega)
  rw [show off + j / 2 * 2 + j % 2 = off + j by omega] at this
  rw [this]
  have h2 := rowE_at l (j / 2) (j % 2) (by omega) (by omega)
  rw [show j / 2 * 2 + j % 2 = j by omega, hj] at h2
  exact h2.symm
theorem IsEdges.ofOwn {w : World} {base e : Nat} {v : Value} {l : List (Int × Int)} (h : w.ownsRow base e 2 v l.length (rowE l)) : IsEdges w (fun b => base ≤ b) v l :=
  (IsSl.ofOwn h (M := fun b => base ≤ b) fun _ hb => hb).congr fun i j hi hj => by
    rw [List.getD_eq_getElem?_getD, rowE_at l i j hi hj]; rfl
theorem own_one (w : World) (x y : Int) {base : Nat} (hb : base ≤ w.heap.size) : (w.alloc (.cells #[.int .i64 x, .int .i64 y] 46)).ownsRow base 46 2 (.slice (some ⟨w.heap.size, 0, none⟩) 1 1) 1 (rowE [(x, y)]) :=
  ⟨rfl, .inr ⟨w.heap.size, 1, #[.int .i64 x, .int .i64 y], rfl, hb, by rw [heap_alloc_if, if_pos rfl], Nat.le_refl _, by unfold maxLen; omega, rfl, rfl⟩⟩
theorem one_edge (l : List (Int × Int)) : ∀ u ∈ rowE l, u.oneCell' = true := by
  intro u hu
  unfold rowE at hu
  rw [List.mem_flatMap] at hu
  obtain ⟨e, -, he⟩ := hu
  simp at he
  rcases he with rfl | rfl <;> rfl
theorem Try.info_edge : (Try.prog.info? 46).map (fun i => (i.zero, i.size, i.bytes)) = some (some (.agg #[.int .i64 0, .int .i64 0]), 2, 16) := by kernel_rfl
theorem rowE_app (a b : List (Int × Int)) : rowE (a ++ b) = rowE a ++ rowE b := by unfold rowE; rw [List.flatMap_append]
section
variable {ops : Array Oper} {o : Oper} {a : Act} {W : World} {K : Act → World → Prop} {Q : Exit → Act → World → Prop} {E : Prop}
/-- append of pairs onto an own row of pairs, as an arm of a region -/
theorem step_edges (base : Nat) (l m : List (Int × Int)) {v vm : Value} {M : Nat → Prop} (hown : W.ownsRow base 46 2 v l.length (rowE l)) (hm : IsEdges W M vm m) (hlen : l.length + m.length ≤ 5000) (hbase : base ≤ W.heap.size) (hgd : o.guard = none) (s x : Operand)
    (ho : o.op = .call { callee := .builtin .append, args := #[s, x], argTypes := #[22, 22] }) (hs : a.eval s = v) (hx : a.eval x = vm)
    (hK : ∀ A c w', Hid (w'.ownsRow base 46 2 (.slice A (l ++ m).length c) (l ++ m).length (rowE (l ++ m)) ∧ W.grownBy w' v.ownBlock ∧ Below base W w') → K (a.put o.dst (.slice A (l ++ m).length c)) w') :
    if Region.wanted o (yielded ops a.tmps) = true then Oper.wp Try.prog o a W K Q else E := by
  obtain ⟨ii, hii, hz0, hz1, hz2⟩ := info_parts Try.info_edge
  obtain ⟨A, c, rfl, hl1, hl2, hcells⟩ := id hm
  refine step_append_cells W hgd s x 22 ho base 46 ii (.agg #[.int .i64 0, .int .i64 0]) 2 16 Try.underlying22 hii hz0 hz1 hz2 rfl (by decide) v l.length (rowE l) hs hown A m.length c (rowE m) hx (rowE_len m) (fun h => edges_news hm h) (one_edge m) (by unfold maxLen; omega) (by omega) hbase ?_
  intro v' w' h1 h2 h3
  rw [← rowE_app, ← List.length_append] at h1
  obtain ⟨A', c', rfl⟩ := own_sl h1
  exact hK A' c' w' ⟨h1, h2, (Below.refl base W).grown h2 hbase (own_base hown)⟩
end
theorem cell_off {w : World} {a b i j : Nat} {u : Value} (h : a ≠ b) : (w.setCell ⟨b, j, none⟩ u).cell? ⟨a, i, none⟩ = w.cell? ⟨a, i, none⟩ :=
  World.cell?_of_block (w := w) (Below.heap_setCell _ _ _ _ h)
theorem edges_take {w : World} {M : Nat → Prop} {A : Option Addr} {n c : Nat} {l : List (Int × Int)} (h : IsEdges w M (.slice A n c) l) {k : Nat} (hk : k ≤ l.length) : IsEdges w M (.slice A k c) (l.take k) := by
  obtain ⟨A', c', e, h1, h2, h3⟩ := h
  cases e
  refine ⟨A, c, by rw [List.length_take, Nat.min_eq_left hk], by rw [List.length_take]; omega, h2, fun hn => ?_⟩
  rw [List.length_take, Nat.min_eq_left hk] at hn
  obtain ⟨b, off, e, hM, hc⟩ := h3 (by omega)
  refine ⟨b, off, e, hM, fun i j hi hj => ?_⟩
  rw [List.length_take, Nat.min_eq_left hk] at hi
  rw [hc i j (by omega) hj]
  dsimp only
  rw [List.getD_eq_getElem?_getD, List.getD_eq_getElem?_getD, List.getElem?_take_of_lt hi]
theorem edges_drop {w : World} {M : Nat → Prop} {b off n c c' lo : Nat} {l : List (Int × Int)} (h : IsEdges w M (.slice (some ⟨b, off, none⟩) n c) l) (hk : lo ≤ l.length) (hc : l.length - lo ≤ c') (hc2 : c' ≤ 9223372036854775807) : IsEdges w M (.slice (some ⟨b, off + lo * 2, none⟩) (l.length - lo) c') (l.drop lo) := by
  rcases Nat.lt_or_ge lo l.length with h1 | h1
  · have := h.part h1 (Nat.le_refl _) hc hc2
    rwa [List.take_of_length_le (by rw [List.length_drop]; omega)] at this
  · have e : l.drop lo = [] := List.drop_eq_nil_of_le h1
    rw [e]
    exact ⟨_, c', by rw [show l.length - lo = 0 by omega]; rfl, by simp, hc2, fun h => absurd h (by simp)⟩
def WeakW (w : World) (e : Ending) (w' : World) : Prop := ∃ v z, e = .returned (.tuple #[v, .int .i64 z]) ∧ Below w.heap.size w w'
theorem max_weak (w : World) (M : Nat → Prop) (v : Value) (g : GrD) (h : IsGraph w M v g) : Calls Try.prog 16 #[v] w (WeakW w) := by
  cases hc : chkB g
  · exact (max_no w M v g h hc).mono fun e w' h => ⟨_, _, h.1, h.2⟩
  · obtain ⟨L, R, hg⟩ := gok_of hc
    refine (max_yes w M v g h hc hg).mono ?_
    rintro e w' ⟨v, lf, rf, he, -, -, hb⟩
    exact ⟨_, _, he, hb⟩
end Go.Proofs.Ytolappaekjdcgaa
