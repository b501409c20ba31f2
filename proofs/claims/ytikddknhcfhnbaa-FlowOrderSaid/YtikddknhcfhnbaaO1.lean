/- Rows of ints in a row of their own. -/
import Derived.Test.YtikddknhcfhnbaaB3
namespace Go.Proofs.Ytikddknhcfhnbaa
open Go.RowKit
/-- a block of ints in M -/
def IntB (w : World) (M : Nat → Prop) (b : Nat) : Prop := M b ∧ ∃ cs z, w.heap[b]? = some (.cells cs 3 z)
/-- a slice of ints that lies in blocks of ints -/
def TInts (w : World) (X : Nat → Prop) (v : Value) (xs : List Int) : Prop := IsInts w (IntB w X) v xs
theorem TInts.keep {w w' : World} {X : Nat → Prop} {v : Value} {xs : List Int} (h : TInts w X v xs) (hk : ∀ b, IntB w X b → w'.heap[b]? = w.heap[b]?) : TInts w' X v xs := by
  obtain ⟨A, c, e, h1, h2, h3⟩ := h
  refine ⟨A, c, e, h1, h2, fun hn => ?_⟩
  obtain ⟨b, off, e2, hb, hc⟩ := h3 hn
  obtain ⟨hx, cs, z, hcs⟩ := id hb
  refine ⟨b, off, e2, ⟨hx, cs, z, (hk b hb).trans hcs⟩, fun i j hi hj => ?_⟩
  rw [← hc i j hi hj]
  exact World.cell?_of_block (w := w) (hk b hb)
theorem TInts.below {w w' : World} {X : Nat → Prop} {v : Value} {xs : List Int} (h : TInts w X v xs) (hb : Below w.heap.size w w') : TInts w' X v xs :=
  h.keep fun b ⟨_, _, _, e⟩ => hb.block b (lt_heap e)
theorem TInts.ofOwn {w : World} {X : Nat → Prop} {base : Nat} {v : Value} {xs : List Int} (h : w.ownsRow base 3 1 v xs.length (xs.map i64v)) (hX : ∀ b, base ≤ b → X b) : TInts w X v xs := by
  have h0 := IsInts.ofOwn h
  rcases h.2 with ⟨rfl, e⟩ | ⟨g, cap, cur, rfl, hbg, hg, -⟩
  · have : xs = [] := List.eq_nil_of_length_eq_zero e
    subst this
    exact IsSl.nil
  · obtain ⟨A, c, e, h1, h2, h3⟩ := h0
    cases e
    refine ⟨_, _, rfl, h1, h2, fun hn => ?_⟩
    obtain ⟨b, off, e2, -, hc⟩ := h3 hn
    cases e2
    exact ⟨_, _, rfl, ⟨hX _ hbg, _, _, hg⟩, hc⟩
theorem own_below {w w' : World} {base e sz n : Nat} {v : Value} {xs : List Value} (h : w.ownsRow base e sz v n xs) (hb : Below w.heap.size w w') : w'.ownsRow base e sz v n xs := by
  obtain ⟨h1, h2⟩ := h
  refine ⟨h1, ?_⟩
  rcases h2 with h2 | ⟨r, cap, cur, hv, hbb, hh, rest⟩
  · exact .inl h2
  · exact .inr ⟨r, cap, cur, hv, hbb, (hb.block r (lt_heap hh)).trans hh, rest⟩
/-- own rows of ints -/
structure RowsW (w : World) (X : Nat → Prop) (base : Nat) (v : Value) (rows : List (List Int)) : Prop where
  ex : ∃ vals : List Value, w.ownsRow base 25 1 v rows.length vals ∧ ∀ r, r < rows.length → ∃ u, vals[r]? = some u ∧ TInts w X u (rows.getD r [])
theorem RowsW.below {w w' : World} {X : Nat → Prop} {base : Nat} {v : Value} {rows : List (List Int)} (h : RowsW w X base v rows) (hb : Below w.heap.size w w') : RowsW w' X base v rows := by
  obtain ⟨vals, h1, h2⟩ := h.ex
  exact ⟨vals, own_below h1 hb, fun r hr => by obtain ⟨u, e, hu⟩ := h2 r hr; exact ⟨u, e, hu.below hb⟩⟩
theorem RowsW.sl {w : World} {X : Nat → Prop} {base : Nat} {v : Value} {rows : List (List Int)} (h : RowsW w X base v rows) : ∃ A c, v = .slice A rows.length c := by
  obtain ⟨vals, h1, -⟩ := h.ex
  exact own_sl h1
/-- no row -/
theorem RowsW.nil (w : World) (X : Nat → Prop) (base : Nat) : RowsW w X base (.slice none 0 0) [] := ⟨[], own_nil _ _ _ _, fun r hr => absurd hr (by simp)⟩
/-- the blocks of X and the rows' own block are as they were -/
theorem RowsW.kp {w w' : World} {X : Nat → Prop} {base : Nat} {v : Value} {rows : List (List Int)} (h : RowsW w X base v rows) (hk : ∀ k, k < w.heap.size → X k → w'.heap[k]? = w.heap[k]?) (ho : ∀ b, v.ownBlock = some b → b < w.heap.size → w'.heap[b]? = w.heap[b]?) : RowsW w' X base v rows := by
  obtain ⟨vals, h1, h2⟩ := h.ex
  exact ⟨vals, own_kept h1 ho, fun r hr => by
    obtain ⟨u, e, hu⟩ := h2 r hr
    exact ⟨u, e, hu.keep fun b ⟨hx, _, _, eb⟩ => hk b (lt_heap eb) hx⟩⟩
theorem RowsW.mono {w : World} {X X' : Nat → Prop} {base : Nat} {v : Value} {rows : List (List Int)} (h : RowsW w X base v rows) (hX : ∀ b, b < w.heap.size → X b → X' b) : RowsW w X' base v rows := by
  obtain ⟨vals, h1, h2⟩ := h.ex
  exact ⟨vals, h1, fun r hr => by
    obtain ⟨u, e, hu⟩ := h2 r hr
    exact ⟨u, e, IsSl.mono hu (fun b hb ⟨h3, h4⟩ => ⟨hX b hb h3, h4⟩) (by decide)⟩⟩
theorem RowsW.lt {w : World} {X : Nat → Prop} {base : Nat} {v : Value} {rows : List (List Int)} (h : RowsW w X base v rows) : ∀ b, v.ownBlock = some b → base ≤ b ∧ b < w.heap.size := by
  obtain ⟨vals, h1, -⟩ := h.ex
  exact own_lt h1
/-- the rows' own block is no block of ints -/
theorem RowsW.ne {w : World} {X : Nat → Prop} {base base' n : Nat} {v v' : Value} {rows : List (List Int)} {xs : List Value} (h : RowsW w X base v rows) (h' : w.ownsRow base' 3 1 v' n xs) : ∀ b, v'.ownBlock = some b → v.ownBlock ≠ some b := by
  intro b e1 e2
  obtain ⟨vals, h1, -⟩ := h.ex
  rcases h1.2 with ⟨rfl, -⟩ | ⟨g, cap, cur, rfl, -, hg, -⟩
  · simp [Value.ownBlock] at e2
  · rcases h'.2 with ⟨rfl, -⟩ | ⟨g', cap', cur', rfl, -, hg', -⟩
    · simp [Value.ownBlock] at e1
    · simp [Value.ownBlock] at e1 e2
      subst e1 e2
      rw [hg] at hg'
      injection hg' with hg'
      injection hg' with _ h4
      exact absurd h4 (by decide)
/-- one row -/
theorem RowsW.one {w : World} {X : Nat → Prop} {base : Nat} {u : Value} {xs : List Int} (hb : base ≤ w.heap.size) (hu : TInts w X u xs) : RowsW (w.alloc (.cells #[u] 25)) X base (.slice (some ⟨w.heap.size, 0, none⟩) 1 1) [xs] := by
  refine ⟨[u], ⟨rfl, .inr ⟨w.heap.size, 1, #[u], rfl, hb, by rw [heap_alloc_if, if_pos rfl], Nat.le_refl _, by unfold maxLen; omega, rfl, rfl⟩⟩, fun r hr => ?_⟩
  match r, hr with
  | 0, _ => exact ⟨u, rfl, hu.below ((Below.refl _ _).alloc (Nat.le_refl _) _)⟩
/-- row r -/
theorem RowsW.at_ {w wr : World} {X : Nat → Prop} {base n c r : Nat} {A : Option Addr} {rows : List (List Int)} (h : RowsW w X base (.slice A n c) rows) (hb : Below w.heap.size w wr) (hr : r < rows.length) :
    ∃ b A' c', A = some ⟨b, 0, none⟩ ∧ wr.cell? ⟨b, r, none⟩ = some (.slice A' (rows.getD r []).length c') ∧ TInts wr X (.slice A' (rows.getD r []).length c') (rows.getD r []) := by
  obtain ⟨vals, h1, h2⟩ := h.ex
  obtain ⟨u, e, hu⟩ := h2 r hr
  rcases h1.2 with ⟨e2, e3⟩ | ⟨g, cap, cur, e2, -, hg, -, -, -, ht⟩
  · omega
  · cases e2
    have hu' := hu.below hb
    obtain ⟨A', c', rfl, -⟩ := id hu
    refine ⟨g, A', c', rfl, ?_, hu'⟩
    refine cell_of ((hb.block g (lt_heap hg)).trans hg) ?_
    rw [← ht, Nat.mul_one, List.getElem?_take_of_lt hr] at e
    simpa using e
theorem Try.info_ints : (Try.prog.info? 25).map (fun i => (i.zero, i.size, i.bytes)) = some (some (.slice none 0 0), 1, 24) := by kernel_rfl
theorem one_slices {w : World} {X : Nat → Prop} {rows : List (List Int)} {vals : List Value} (hl : vals.length = rows.length) (h : ∀ r, r < rows.length → ∃ u, vals[r]? = some u ∧ TInts w X u (rows.getD r [])) : ∀ u ∈ vals, u.oneCell' = true := by
  intro u hu
  obtain ⟨r, hr, rfl⟩ := List.mem_iff_getElem.1 hu
  obtain ⟨u', e, A, c, hv, -⟩ := h r (by omega)
  rw [List.getElem?_eq_getElem hr] at e
  injection e with e
  rw [e, hv]; rfl
section
variable {ops : Array Oper} {rest : List Oper} {o : Oper} {a : Act} {W : World} {Q : Exit → Act → World → Prop}
/-- append of rows onto own rows -/
theorem wpList_rows (X : Nat → Prop) (base base2 : Nat) {v vm : Value} {l m : List (List Int)} (h1 : RowsW W X base v l) (h2 : RowsW W X base2 vm m) (hlen : l.length + m.length ≤ 1000000) (hbase : base ≤ W.heap.size) (hgd : o.guard = none) (s x : Operand)
    (ho : o.op = .call { callee := .builtin .append, args := #[s, x], argTypes := #[38, 38] }) (hs : a.eval s = v) (hx : a.eval x = vm)
    (hK : ∀ A c w', Hid (RowsW w' X base (.slice A (l ++ m).length c) (l ++ m) ∧ Below base W w' ∧ ∀ k, k < W.heap.size → v.ownBlock ≠ some k → w'.heap[k]? = W.heap[k]?) → wpList Try.prog ops Q rest (a.put o.dst (.slice A (l ++ m).length c)) w') : wpList Try.prog ops Q (o :: rest) a W := by
  obtain ⟨ii, hii, hz0, hz1, hz2⟩ := info_parts Try.info_ints
  obtain ⟨va, ha1, ha2⟩ := h1.ex
  obtain ⟨vb, hb1, hb2⟩ := h2.ex
  have hlb : vb.length = m.length := by have := hb1.1; omega
  have hla : va.length = l.length := by have := ha1.1; omega
  have hsl := IsSl.ofOwn (M := fun _ => True) hb1 fun _ _ => trivial
  obtain ⟨A, c, e, hl1, hl2, hcells⟩ := hsl
  refine wpList_append_cells W hgd s x 38 ho base 25 ii (.slice none 0 0) 1 24 Try.underlying38 hii hz0 hz1 hz2 rfl (by decide) v l.length va hs ha1 A m.length c vb (hx.trans e) (by omega) (fun hm => ?_) (one_slices hlb hb2) (by unfold maxLen; omega) (by omega) hbase ?_
  · obtain ⟨b, off, rfl, -, hc⟩ := hcells hm
    refine ⟨_, rfl, fun j u hj => ?_⟩
    have hjl : j < vb.length := (List.getElem?_eq_some_iff.1 hj).1
    rw [addr_add]
    have := hc j 0 (by omega) (by omega)
    rw [Nat.mul_one, Nat.add_zero] at this
    rw [this]
    show some (vb.getD (j * 1 + 0) .nilIface) = some u
    rw [Nat.mul_one, Nat.add_zero, List.getD_eq_getElem?_getD, hj]; rfl
  · intro v' w' k1 k2 k3
    have hkeep : ∀ b, IntB W X b → w'.heap[b]? = W.heap[b]? := by
      rintro b ⟨-, cs, z, e⟩
      refine k2.block b (lt_heap e) fun e3 => ?_
      rcases ha1.2 with ⟨rfl, -⟩ | ⟨g, cap, cur, rfl, -, hg, -⟩
      · simp [Value.ownBlock] at e3
      · have e' : b = g := by simpa [Value.ownBlock] using e3
        rw [← e', e] at hg
        injection hg with hg
        injection hg with _ h4
        exact absurd h4 (by decide)
    have hrows : RowsW w' X base v' (l ++ m) := by
      refine ⟨va ++ vb, by rw [List.length_append]; exact k1, fun r hr => ?_⟩
      rcases Nat.lt_or_ge r l.length with h | h
      · obtain ⟨u, e1, e2⟩ := ha2 r h
        refine ⟨u, by rw [List.getElem?_append_left (by omega)]; exact e1, ?_⟩
        rw [List.getD_eq_getElem?_getD, List.getElem?_append_left h, ← List.getD_eq_getElem?_getD]
        exact e2.keep hkeep
      · rw [List.length_append] at hr
        obtain ⟨u, e1, e2⟩ := hb2 (r - l.length) (by omega)
        refine ⟨u, by rw [List.getElem?_append_right (by omega), hla]; exact e1, ?_⟩
        rw [List.getD_eq_getElem?_getD, List.getElem?_append_right h, ← List.getD_eq_getElem?_getD]
        exact e2.keep hkeep
    obtain ⟨A', c', rfl⟩ := hrows.sl
    exact hK A' c' w' ⟨hrows, (Below.refl base W).grown k2 hbase (own_base ha1), fun k hk hne => k2.block k hk fun e => hne e.symm⟩
end
end Go.Proofs.Ytikddknhcfhnbaa
