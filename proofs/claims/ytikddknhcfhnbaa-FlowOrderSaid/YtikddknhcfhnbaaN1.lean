/- Own rows of arcs. -/
import Derived.Test.YtikddknhcfhnbaaO2
import Derived.Test.YtikddknhcfhnbaaZ3
namespace Go.Proofs.Ytikddknhcfhnbaa
open Go.RowKit Go.Deep
/-- the cells of arcs -/
def arcL : List ArcD → List Value
  | [] => []
  | a :: l => i64v a.src :: i64v a.dst :: i64v a.cap :: arcL l
theorem arcL_len : ∀ l : List ArcD, (arcL l).length = l.length * 3
  | [] => rfl
  | a :: l => by simp [arcL, arcL_len l]; omega
theorem arcL_append : ∀ l m : List ArcD, arcL (l ++ m) = arcL l ++ arcL m
  | [], _ => rfl
  | a :: l, m => by simp [arcL, arcL_append l m]
theorem arcL_at : ∀ {l : List ArcD} {i j : Nat}, i < l.length → j < 3 → (arcL l)[i * 3 + j]? = some (arcc (nthA l i) j)
  | [], _, _, h, _ => absurd h (by simp)
  | a :: l, 0, j, _, hj => by
    match j, hj with
    | 0, _ => rfl
    | 1, _ => rfl
    | 2, _ => rfl
  | a :: l, i + 1, j, h, hj => by
    rw [show (i + 1) * 3 + j = i * 3 + j + 1 + 1 + 1 by omega]
    show (arcL l)[i * 3 + j]? = some (arcc (nthA l i) j)
    exact arcL_at (by simpa using h) hj
theorem arcL_one (l : List ArcD) : ∀ u ∈ arcL l, u.oneCell' = true := by
  induction l with
  | nil => intro u hu; cases hu
  | cons a l ih =>
    intro u hu
    simp only [arcL, List.mem_cons] at hu
    rcases hu with rfl | rfl | rfl | hu
    · rfl
    · rfl
    · rfl
    · exact ih u hu
theorem Try.info_arc : (Try.prog.info? 45).map (fun i => (i.zero, i.size, i.bytes)) = some (some (.agg #[.int .i64 0, .int .i64 0, .int .i64 0]), 3, 24) := by kernel_rfl
theorem arcL_cells {w : World} {M : Nat → Prop} {A : Option Addr} {n c : Nat} {m : List ArcD} (hm : IsArcs w M (.slice A n c) m) (h0 : 0 < m.length) : ∃ ad, A = some ad ∧ ∀ j u, (arcL m)[j]? = some u → w.cell? (ad.add j) = some u := by
  obtain ⟨A', c', e, -, -, hc⟩ := hm
  cases e
  obtain ⟨b, off, rfl, -, hcc⟩ := hc h0
  refine ⟨_, rfl, fun j u hj => ?_⟩
  have hjl : j < m.length * 3 := by rw [← arcL_len]; exact (List.getElem?_eq_some_iff.1 hj).1
  have h1 := arcL_at (l := m) (i := j / 3) (j := j % 3) (by omega) (by omega)
  rw [show j / 3 * 3 + j % 3 = j by omega, hj] at h1
  injection h1 with h1
  subst h1
  rw [addr_add]
  have := hcc (j / 3) (j % 3) (by omega) (by omega)
  rwa [show off + j / 3 * 3 + j % 3 = off + j by omega] at this
section
variable {w w' W : World} {base : Nat} {v : Value} {l m : List ArcD}
theorem IsArcs.ofOwn (h : w.ownsRow base 45 3 v l.length (arcL l)) : IsArcs w (fun b => base ≤ b) v l :=
  IsSl.congr (IsSl.ofOwn h fun _ hb => hb) fun i j hi hj => by
    rw [List.getD_eq_getElem?_getD, arcL_at hi hj]; rfl
theorem own_arc0 {g : Nat} (hg : w.heap[g]? = some (.cells #[] 45 (0, 0))) (hb : base ≤ g) : w.ownsRow base 45 3 (.slice (some ⟨g, 0, none⟩) 0 0) ([] : List ArcD).length (arcL []) := own_empty hg hb
theorem own_arc1 {g : Nat} {x y z : Int} (hg : w.heap[g]? = some (.cells #[.int .i64 x, .int .i64 y, .int .i64 z] 45 (0, 0))) (hb : base ≤ g) : w.ownsRow base 45 3 (.slice (some ⟨g, 0, none⟩) 1 1) ([⟨x, y, z⟩] : List ArcD).length (arcL [⟨x, y, z⟩]) :=
  ⟨rfl, .inr ⟨g, 1, _, rfl, hb, hg, Nat.le_refl _, by unfold maxLen; omega, rfl, rfl⟩⟩
/-- append of arcs onto an own row -/
theorem wpList_arcs {ops : Array Oper} {rest : List Oper} {o : Oper} {a : Act} {Q : Exit → Act → World → Prop} (hg : o.guard = none) (s x : Operand) (hop : o.op = .call { callee := .builtin .append, args := #[s, x], argTypes := #[22, 22] })
    (base : Nat) (l m : List ArcD) {M : Nat → Prop} {v : Value} {A : Option Addr} {n c : Nat} (hs : a.eval s = v) (hown : w.ownsRow base 45 3 v l.length (arcL l)) (hx : a.eval x = .slice A n c) (hm : IsArcs w M (.slice A n c) m) (hl : l.length + m.length < 1000000) (hbase : base ≤ w.heap.size)
    (h : ∀ A d w', Hid (w'.ownsRow base 45 3 (.slice A (l ++ m).length d) (l ++ m).length (arcL (l ++ m)) ∧ Below base w w' ∧ ∀ k, k < w.heap.size → v.ownBlock ≠ some k → w'.heap[k]? = w.heap[k]?) → wpList Try.prog ops Q rest (a.put o.dst (.slice A (l ++ m).length d)) w') : wpList Try.prog ops Q (o :: rest) a w := by
  obtain ⟨i, hi, hz, hsz, hb⟩ := info_parts Try.info_arc
  have hm' := hm
  obtain ⟨A', c', e, -, -, -⟩ := hm
  cases e
  refine wpList_append_cells w hg s x 22 hop base 45 i _ 3 24 Try.underlying22 hi hz hsz hb rfl (by decide) v l.length (arcL l) hs hown A m.length c (arcL m) hx (arcL_len m) (arcL_cells hm') (arcL_one m) (by unfold maxLen; omega) (by omega) hbase fun v' w' h1 h2 h3 => ?_
  obtain ⟨A, d, rfl⟩ := own_sl h1
  have h4 : Below base w w' := (Below.refl base w).grown h2 hbase fun k e => (own_lt hown k e).1
  have h6 := h A d w'
  rw [← arcL_append] at h1
  rw [List.length_append] at h6
  exact h6 (Lib.hid ⟨h1, h4, fun k hk hne => h2.block k hk fun e => hne e.symm⟩)
/-- the same where a region draws its order -/
theorem step_arcs {ops : Array Oper} {o : Oper} {a : Act} {K : Act → World → Prop} {Q : Exit → Act → World → Prop} {E : Prop} (base : Nat) (l m : List ArcD) {M : Nat → Prop} {v : Value} {A : Option Addr} {n c : Nat} (hown : w.ownsRow base 45 3 v l.length (arcL l)) (hm : IsArcs w M (.slice A n c) m) (hl : l.length + m.length < 1000000) (hbase : base ≤ w.heap.size)
    (hgd : o.guard = none) (s x : Operand) (ho : o.op = .call { callee := .builtin .append, args := #[s, x], argTypes := #[22, 22] }) (hs : a.eval s = v) (hx : a.eval x = .slice A n c)
    (h : ∀ A d w', Hid (w'.ownsRow base 45 3 (.slice A (l.length + m.length) d) (l ++ m).length (arcL (l ++ m)) ∧ w.grownBy w' v.ownBlock ∧ Below base w w') → K (a.put o.dst (.slice A (l.length + m.length) d)) w') :
    if Region.wanted o (yielded ops a.tmps) = true then Oper.wp Try.prog o a w K Q else E := by
  obtain ⟨i, hi, hz, hsz, hb⟩ := info_parts Try.info_arc
  have hm' := hm
  obtain ⟨A', c', e, -, -, -⟩ := hm
  cases e
  refine step_append_cells w hgd s x 22 ho base 45 i _ 3 24 Try.underlying22 hi hz hsz hb rfl (by decide) v l.length (arcL l) hs hown A m.length c (arcL m) hx (arcL_len m) (arcL_cells hm') (arcL_one m) (by unfold maxLen; omega) (by omega) hbase fun v' w' h1 h2 h3 => ?_
  obtain ⟨A, d, rfl⟩ := own_sl h1
  have h4 : Below base w w' := (Below.refl base w).grown h2 hbase fun k e => (own_lt hown k e).1
  rw [← arcL_append] at h1
  exact h A d w' (Lib.hid ⟨by rw [List.length_append]; exact h1, h2, h4⟩)
end
theorem net_arcs {w : World} {M : Nat → Prop} {x v2 : Value} {n : NetD} (h : IsNet w M (.agg #[x, v2]) n) : IsArcs w M v2 n.arcs := by
  obtain ⟨v, e, h2⟩ := h
  simp only [Value.agg.injEq, Array.mk.injEq, List.cons.injEq, and_true] at e
  rw [e.2]; exact h2
theorem cap_ok {n : NetD} (h : chkN n = true) {i : Nat} (hi : i < n.arcs.length) : 0 ≤ (nthA n.arcs i).cap ∧ (nthA n.arcs i).cap ≤ 1073741824 := by
  have h3 := (chk_parts h).2 (nthA n.arcs i) (by rw [nthA_get hi]; exact List.getElem_mem hi)
  rw [okA_iff] at h3
  exact h3.2.2.2.2.2
/-- block g holds the arcs of n with the capacities F -/
def ArcsAt (w : World) (g : Nat) (n : NetD) (F : Nat → Int) : Prop := ∃ cs t, w.heap[g]? = some (.cells cs t (0, 0)) ∧ ∀ i j, i < n.arcs.length → j < 3 → cs[i * 3 + j]? = some (arcc ⟨(nthA n.arcs i).src, (nthA n.arcs i).dst, F i⟩ j)
section
variable {w w' : World} {g : Nat} {n : NetD} {F : Nat → Int}
theorem ArcsAt.ofOwn {base d : Nat} {A : Option Addr} (h : w.ownsRow base 45 3 (.slice A n.arcs.length d) n.arcs.length (arcL n.arcs)) (h0 : 0 < n.arcs.length) : ∃ g, A = some ⟨g, 0, none⟩ ∧ base ≤ g ∧ n.arcs.length ≤ d ∧ d ≤ 9223372036854775807 ∧ ArcsAt w g n (capOf n) := by
  rcases h.2 with ⟨-, e⟩ | ⟨r, cap, cur, e, hb, hh, h4, h5, h6, h7⟩
  · omega
  · injection e with e1 e2 e3
    subst e3
    refine ⟨r, e1, hb, h4, by simpa [maxLen] using h5, cur, _, hh, fun i j hi hj => ?_⟩
    have h8 := congrArg (fun l => l[i * 3 + j]?) h7
    simp only [List.getElem?_take_of_lt (show i * 3 + j < n.arcs.length * 3 by omega), arcL_at hi hj] at h8
    have h9 : cur[i * 3 + j]? = some (arcc (nthA n.arcs i) j) := by simpa using h8
    exact h9
theorem ArcsAt.congr {G : Nat → Int} (h : ArcsAt w g n F) (he : ∀ i, i < n.arcs.length → F i = G i) : ArcsAt w g n G := by
  obtain ⟨cs, t, h1, h2⟩ := h
  exact ⟨cs, t, h1, fun i j hi hj => by rw [← he i hi]; exact h2 i j hi hj⟩
theorem ArcsAt.cell {i : Nat} (h : ArcsAt w g n F) (hi : i < n.arcs.length) : w.cell? ⟨g, i * 3 + 2, none⟩ = some (.int .i64 (F i)) := by
  obtain ⟨cs, t, h1, h2⟩ := h
  exact cell_of h1 (h2 i 2 hi (by decide))
theorem ArcsAt.frozen {j : Nat} (h : ArcsAt w g n F) : w.frozen? ⟨g, j, none⟩ = false := by
  obtain ⟨cs, t, h1, h2⟩ := h
  exact frz_at h1
theorem ArcsAt.lt (h : ArcsAt w g n F) : g < w.heap.size := by
  obtain ⟨cs, t, h1, h2⟩ := h
  exact lt_heap h1
theorem ArcsAt.keep (h : ArcsAt w g n F) (hk : w'.heap[g]? = w.heap[g]?) : ArcsAt w' g n F := by
  obtain ⟨cs, t, h1, h2⟩ := h
  exact ⟨cs, t, hk.trans h1, h2⟩
theorem ArcsAt.set {k : Nat} (h : ArcsAt w g n F) (hk : k < n.arcs.length) (x : Int) : ArcsAt (w.setCell ⟨g, k * 3 + 2, none⟩ (.int .i64 x)) g n (fun i => if i = k then x else F i) := by
  obtain ⟨cs, t, h1, h2⟩ := h
  refine ⟨cs.setIfInBounds (k * 3 + 2) (.int .i64 x), t, by rw [heap_set_if, if_pos rfl, h1]; rfl, fun i j hi hj => ?_⟩
  have h3 := h2 i j hi hj
  rw [Array.getElem?_setIfInBounds]
  by_cases e : k * 3 + 2 = i * 3 + j
  · have hlt := (Array.getElem?_eq_some_iff.1 h3).1
    obtain rfl : j = 2 := by omega
    obtain rfl : k = i := by omega
    rw [if_pos rfl, if_pos hlt]
    simp [arcc, i64v]
  · rw [if_neg e, h3]
    by_cases e2 : i = k
    · subst e2
      have hj2 : j ≠ 2 := fun q => e (by rw [q])
      match j, hj, hj2 with
      | 0, _, _ => rfl
      | 1, _, _ => rfl
      | 2, _, h => exact absurd rfl h
    · dsimp only; rw [if_neg e2]
theorem ArcsAt.isArcs (h : ArcsAt w g n F) {d : Nat} {M : Nat → Prop} (hM : M g) (hd : n.arcs.length ≤ d) (hd2 : d ≤ 9223372036854775807) : IsArcs w M (.slice (some ⟨g, 0, none⟩) n.arcs.length d) (capN n F).arcs := by
  obtain ⟨cs, t, h1, h2⟩ := h
  refine ⟨some ⟨g, 0, none⟩, d, by rw [capN_len], by rw [capN_len]; exact hd, hd2, fun _ => ⟨g, 0, rfl, hM, fun i j hi hj => ?_⟩⟩
  rw [capN_len] at hi
  rw [Nat.zero_add]; dsimp only; rw [capN_at hi]
  exact cell_of h1 (h2 i j hi hj)
end
end Go.Proofs.Ytikddknhcfhnbaa
