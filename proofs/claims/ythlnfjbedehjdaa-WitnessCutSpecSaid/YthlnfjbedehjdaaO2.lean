/- slices.Clone of ints. -/
import Derived.Test.YthlnfjbedehjdaaA4
import Derived.Test.YthlnfjbedehjdaaAp
import Derived.Test.YthlnfjbedehjdaaRep
import Derived.Lib.SliceRun
namespace Go.Proofs.Ythlnfjbedehjdaa
open Go.RowKit Go.Deep
theorem own_sl {w : World} {base e sz n : Nat} {v : Value} {xs : List Value} (h : w.ownsRow base e sz v n xs) : ∃ A c, v = .slice A n c := by
  obtain ⟨-, h2⟩ := h
  rcases h2 with ⟨rfl, rfl⟩ | ⟨b, cap, cur, rfl, -⟩
  · exact ⟨none, 0, rfl⟩
  · exact ⟨_, _, rfl⟩
theorem own_lt {w : World} {base e sz n : Nat} {v : Value} {xs : List Value} (h : w.ownsRow base e sz v n xs) : ∀ g, v.ownBlock = some g → base ≤ g ∧ g < w.heap.size := by
  intro g hg
  rcases h.2 with ⟨rfl, _⟩ | ⟨b, cap, cur, rfl, hb, hh, _⟩
  · simp [Value.ownBlock] at hg
  · simp [Value.ownBlock] at hg; subst hg; exact ⟨hb, lt_heap hh⟩

/-- append of a slice of ints onto an own row of ints -/
theorem wpList_ints {ops : Array Oper} {rest : List Oper} {o : Oper} {a : Act} {w : World} {Q : Exit → Act → World → Prop} (hg : o.guard = none) (s x : Operand) (hop : o.op = .call { callee := .builtin .append, args := #[s, x], argTypes := #[22, 22] })
    (base : Nat) (l m : List Int) {M : Nat → Prop} {v : Value} {A : Option Addr} {n c : Nat} (hs : a.eval s = v) (hown : w.ownsRow base 3 1 v l.length (l.map i64v)) (hx : a.eval x = .slice A n c) (hm : IsInts w M (.slice A n c) m) (hl : l.length + m.length < 1000000) (hbase : base ≤ w.heap.size)
    (h : ∀ A d w', Hid (w'.ownsRow base 3 1 (.slice A (l ++ m).length d) (l ++ m).length ((l ++ m).map i64v) ∧ Below base w w' ∧ ∀ k, k < w.heap.size → v.ownBlock ≠ some k → w'.heap[k]? = w.heap[k]?) → wpList Try.prog ops Q rest (a.put o.dst (.slice A (l ++ m).length d)) w') : wpList Try.prog ops Q (o :: rest) a w := by
  obtain ⟨i, hi, hz, hsz, hb⟩ := info_parts Try.infoI64
  have hm' := hm
  obtain ⟨A', c', e, -, -, -⟩ := hm
  cases e
  refine wpList_append_cells w hg s x 22 hop base 3 i _ 1 8 Try.underlying22 hi hz hsz hb rfl (by decide) v l.length (l.map i64v) hs hown A m.length c (m.map i64v) hx (by simp) (fun h0 => ?_) (fun u hu => by obtain ⟨y, -, rfl⟩ := List.mem_map.1 hu; rfl) (by unfold maxLen; omega) (by omega) hbase fun v' w' h1 h2 h3 => ?_
  · obtain ⟨b, off, rfl, -, -⟩ := hm'.at_ (Below.refl _ _) h0
    refine ⟨_, rfl, fun j u hj => ?_⟩
    have hjl : j < m.length := by have := (List.getElem?_eq_some_iff.1 hj).1; simpa using this
    obtain ⟨b2, off2, e2, -, hc⟩ := hm'.at_ (Below.refl _ _) hjl
    cases e2
    rw [addr_add, hc, nthI_get hjl]
    simpa [hjl, i64v] using hj
  · obtain ⟨A, d, rfl⟩ := own_sl h1
    rw [← List.length_append] at h1
    have h4 : Below base w w' := (Below.refl base w).grown h2 hbase fun k e => (own_lt hown k e).1
    have h5 : ∀ k, k < w.heap.size → v.ownBlock ≠ some k → w'.heap[k]? = w.heap[k]? := fun k hk hne => h2.block k hk fun e => hne e.symm
    rw [← List.map_append] at h1
    have h6 := h A d w'
    rw [List.length_append] at h1 h6
    exact h6 (Lib.hid ⟨h1, h4, h5⟩)
def CloneW (w : World) (l : List Int) (e : Ending) (w' : World) : Prop := ∃ A c, e = .returned (.slice A l.length c) ∧ w'.ownsRow w.heap.size 3 1 (.slice A l.length c) l.length (l.map i64v) ∧ Below w.heap.size w w'
set_option maxHeartbeats 1000000 in
theorem clone_any (w : World) (M : Nat → Prop) (v : Value) (l : List Int) (h : IsInts w M v l) (hl : l.length ≤ 100000) : Calls Try.prog 46 #[v] w (CloneW w l) := by
  have HI := Lib.hid h
  have q22 : ∀ (w : World) (a : Option Addr) (n c n' c' : Nat), (binOp .eql 22 (.slice a n c) (.slice none n' c')).run Try.prog w = .ok (.bool a.isNone) w := fun w a n c n' c' => Go.Lib.run_eql_slice_nil w _ _ a n c n' c' Try.underlying22
  obtain ⟨A, c, rfl, -, -, hc⟩ := h
  cases A with
  | none =>
    have h0 : l = [] := by
      rcases Nat.eq_zero_or_pos l.length with e | e
      · exact List.eq_nil_of_length_eq_zero e
      · obtain ⟨b, off, e2, -⟩ := hc e
        cases e2
    subst h0
    clear hc
    go_enter Try.func46, Try.ntmps46
    go_wp2_with fail
    go_ret
    exact ⟨none, 0, rfl, own_nil _ _ _ _, Below.refl _ _⟩
  | some ad =>
    clear hc
    go_enter Try.func46, Try.ntmps46
    go_wp2_with (refine wpList_ints rfl (.tmp 5) (.tmp 6) rfl w.heap.size [] l (M := M) rfl (own_empty (by rw [heap_alloc_if, if_pos rfl]) (Nat.le_refl _)) rfl (HI.out.below ((Below.refl _ _).alloc (Nat.le_refl _) _)) (by simp; omega) (by simp) ?_; intro A9 d9 w9 H9)
    go_ret
    exact ⟨A9, d9, rfl, by have := H9.out.1; rwa [List.nil_append] at this, ((Below.refl _ _).alloc (Nat.le_refl _) _).trans H9.out.2.1⟩
end Go.Proofs.Ythlnfjbedehjdaa
