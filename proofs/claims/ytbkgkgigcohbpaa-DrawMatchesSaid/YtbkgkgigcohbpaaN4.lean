import Derived.Test.YtbkgkgigcohbpaaM8
import Derived.Deep.RegionLaw
namespace Go.Proofs.Ytbkgkgigcohbpaa
open Go.RowKit
theorem and_1023 (x : Int) : ∃ q : Nat, bits .and .i64 x 1023 = (q : Int) ∧ q < 1024 := by
  have hx : (BitVec.ofInt 64 x &&& BitVec.ofInt 64 1023).toNat ≤ 1023 := by
    rw [BitVec.toNat_and]
    exact Nat.and_le_right
  refine ⟨(BitVec.ofInt 64 x &&& BitVec.ofInt 64 1023).toNat, ?_, by omega⟩
  show IntKind.i64.wrap ((BitVec.ofInt 64 x &&& BitVec.ofInt 64 1023).toNat : Int) = _
  rw [wrap_i64_nat _ (by omega)]
/-- pairs of ints, cell by cell -/
def rowE (l : List (Int × Int)) : List Value := l.flatMap fun e => [i64v e.1, i64v e.2]
theorem rowE_len : ∀ l : List (Int × Int), (rowE l).length = l.length * 2
  | [] => rfl
  | e :: l => by
    show (i64v e.1 :: i64v e.2 :: rowE l).length = _
    rw [List.length_cons, List.length_cons, List.length_cons, rowE_len l]; omega
theorem rowE_at : ∀ (l : List (Int × Int)) (i j : Nat), i < l.length → j < 2 → (rowE l)[i * 2 + j]? = some (edc (l.getD i (0, 0)) j)
  | [], i, _, h, _ => absurd h (by simp)
  | e :: l, 0, j, _, hj => by
    show (i64v e.1 :: i64v e.2 :: rowE l)[0 * 2 + j]? = _
    match j, hj with
    | 0, _ => rfl
    | 1, _ => rfl
  | e :: l, i + 1, j, h, hj => by
    show (i64v e.1 :: i64v e.2 :: rowE l)[(i + 1) * 2 + j]? = _
    rw [show (i + 1) * 2 + j = (i * 2 + j) + 2 by omega, List.getElem?_cons_succ, List.getElem?_cons_succ, rowE_at l i j (by simpa using h) hj]
    simp [List.getD_eq_getElem?_getD]
theorem edges_news {w : World} {M : Nat → Prop} {A : Option Addr} {n c : Nat} {l : List (Int × Int)} (h : IsEdges w M (.slice A n c) l) (hn : 0 < l.length) : ∃ ad, A = some ad ∧ ∀ j u, (rowE l)[j]? = some u → w.cell? (ad.add j) = some u := by
  obtain ⟨A', c', e, _, _, h3⟩ := h
  cases e
  obtain ⟨b, off, rfl, -, hc⟩ := h3 hn
  refine ⟨_, rfl, fun j u hj => ?_⟩
  have hjl : j < (rowE l).length := (List.getElem?_eq_some_iff.1 hj).1
  rw [rowE_len] at hjl
  rw [addr_add]
  have := hc (j / 2) (j % 2) (by omega) (by omega)
  rw [show off + j / 2 * 2 + j % 2 = off + j by omega] at this
  rw [this]
  have h2 := rowE_at l (j / 2) (j % 2) (by omega) (by omega)
  rw [show j / 2 * 2 + j % 2 = j by omega, hj] at h2
  exact h2.symm
theorem IsEdges.ofOwn {w : World} {base e : Nat} {v : Value} {l : List (Int × Int)} (h : w.ownsRow base e 2 v l.length (rowE l)) : IsEdges w (fun b => base ≤ b) v l :=
  (IsSl.ofOwn h (M := fun b => base ≤ b) fun _ hb => hb).congr fun i j hi hj => by
    rw [List.getD_eq_getElem?_getD, rowE_at l i j hi hj]; rfl
theorem own_one (w : World) (x y : Int) {base : Nat} (hb : base ≤ w.heap.size) : (w.alloc (.cells #[.int .i64 x, .int .i64 y] 47)).ownsRow base 47 2 (.slice (some ⟨w.heap.size, 0, none⟩) 1 1) 1 (rowE [(x, y)]) :=
  ⟨rfl, .inr ⟨w.heap.size, 1, #[.int .i64 x, .int .i64 y], rfl, hb, by rw [heap_alloc_if, if_pos rfl], Nat.le_refl _, by unfold maxLen; omega, rfl, rfl⟩⟩
theorem one_edge (l : List (Int × Int)) : ∀ u ∈ rowE l, u.oneCell' = true := by
  intro u hu
  unfold rowE at hu
  rw [List.mem_flatMap] at hu
  obtain ⟨e, -, he⟩ := hu
  simp at he
  rcases he with rfl | rfl <;> rfl
theorem Try.info_edge : (Try.prog.info? 47).map (fun i => (i.zero, i.size, i.bytes)) = some (some (.agg #[.int .i64 0, .int .i64 0]), 2, 16) := by kernel_rfl
theorem rowE_app (a b : List (Int × Int)) : rowE (a ++ b) = rowE a ++ rowE b := by unfold rowE; rw [List.flatMap_append]
section
variable {ops : Array Oper} {o : Oper} {a : Act} {W : World} {K : Act → World → Prop} {Q : Exit → Act → World → Prop} {E : Prop}
/-- append of pairs onto an own row of pairs, as an arm of a region -/
theorem step_edges (base : Nat) (l m : List (Int × Int)) {v vm : Value} {M : Nat → Prop} (hown : W.ownsRow base 47 2 v l.length (rowE l)) (hm : IsEdges W M vm m) (hlen : l.length + m.length ≤ 1000) (hbase : base ≤ W.heap.size) (hgd : o.guard = none) (s x : Operand)
    (ho : o.op = .call { callee := .builtin .append, args := #[s, x], argTypes := #[23, 23] }) (hs : a.eval s = v) (hx : a.eval x = vm)
    (hK : ∀ A c w', Hid (w'.ownsRow base 47 2 (.slice A (l ++ m).length c) (l ++ m).length (rowE (l ++ m)) ∧ W.grownBy w' v.ownBlock ∧ Below base W w') → K (a.put o.dst (.slice A (l ++ m).length c)) w') :
    if Region.wanted o (yielded ops a.tmps) = true then Oper.wp Try.prog o a W K Q else E := by
  obtain ⟨ii, hii, hz0, hz1, hz2⟩ := info_parts Try.info_edge
  obtain ⟨A, c, rfl, hl1, hl2, hcells⟩ := id hm
  refine step_append_cells W hgd s x 23 ho base 47 ii (.agg #[.int .i64 0, .int .i64 0]) 2 16 Try.underlying23 hii hz0 hz1 hz2 rfl (by decide) v l.length (rowE l) hs hown A m.length c (rowE m) hx (rowE_len m) (fun h => edges_news hm h) (one_edge m) (by unfold maxLen; omega) (by omega) hbase ?_
  intro v' w' h1 h2 h3
  rw [← rowE_app, ← List.length_append] at h1
  obtain ⟨A', c', rfl⟩ := own_sl h1
  exact hK A' c' w' ⟨h1, h2, (Below.refl base W).grown h2 hbase (own_base hown)⟩
end
end Go.Proofs.Ytbkgkgigcohbpaa
