/- Appends of bytes onto rows of bytes that the call made. -/
import Derived.Test.YtocjhepiooljpaaA8
import Derived.Test.YtocjhepiooljpaaT16
namespace Go.Proofs.Ytocjhepiooljpaa
open Go.RowKit Go.Deep Go.Shelf

/-- a row of bytes that was made behind base -/
def OwnB (w : World) (base : Nat) (v : Value) (L : List UInt8) : Prop := w.ownsRow base 5 1 v L.length (L.map byt)
theorem OwnB.drew {w : World} {base : Nat} {v : Value} {L : List UInt8} (h : OwnB w base v L) : OwnB w.drew base v L := h
theorem OwnB.empty {w : World} {base g : Nat} (hg : w.heap[g]? = some (.cells #[] 5 (0, 0))) (hb : base ≤ g) : OwnB w base (.slice (some ⟨g, 0, none⟩) 0 0) [] := own_empty hg hb
theorem OwnB.nil {w : World} {base : Nat} : OwnB w base (.slice none 0 0) [] := ⟨rfl, .inl ⟨rfl, rfl⟩⟩
theorem OwnB.bytes {w : World} {base : Nat} {v : Value} {L : List UInt8} (h : OwnB w base v L) : ∃ A c, v = .slice A L.length c ∧ L.length ≤ c ∧ c ≤ 9223372036854775807 ∧ BytesC w (fun b => base ≤ b) A L := by
  obtain ⟨A, c, e, h1, h2, h3⟩ := own_cells1 h
  refine ⟨A, c, e, h1, h2, fun hn => ?_⟩
  obtain ⟨b, off, e, hb, hc⟩ := h3 hn
  refine ⟨b, off, e, hb, fun i j hi hj => ?_⟩
  obtain rfl : j = 0 := by omega
  have := hc i 0 hi (by omega)
  rw [this]
  simp [List.getD_eq_getElem?_getD, hi]
theorem OwnB.isBytes {w : World} {base : Nat} {v : Value} {L : List UInt8} (h : OwnB w base v L) : IsBytes w (fun b => base ≤ b) v L := h.bytes
theorem OwnB.grow {w w' : World} {base m : Nat} {v : Value} {L : List UInt8} (h : OwnB w base v L) (hb : Below m w w') (hm : w.heap.size ≤ m) : OwnB w' base v L :=
  ⟨h.1, by
    rcases h.2 with ⟨rfl, hx⟩ | ⟨g, cap, cur, rfl, hg, hgb, rest⟩
    · exact .inl ⟨rfl, hx⟩
    · exact .inr ⟨g, cap, cur, rfl, hg, (hb.block g (Nat.lt_of_lt_of_le (lt_heap hgb) hm)).trans hgb, rest⟩⟩
theorem OwnB.below {w w' : World} {base : Nat} {v : Value} {L : List UInt8} (h : OwnB w base v L) (hb : Below w.heap.size w w') : OwnB w' base v L := h.grow hb (Nat.le_refl _)
theorem OwnB.base {w : World} {base base' : Nat} {v : Value} {L : List UInt8} (h : OwnB w base v L) (hb : base' ≤ base) : OwnB w base' v L :=
  ⟨h.1, by
    rcases h.2 with hx | ⟨g, cap, cur, e, hg, rest⟩
    · exact .inl hx
    · exact .inr ⟨g, cap, cur, e, Nat.le_trans hb hg, rest⟩⟩
/-- a row of bytes of a known block -/
theorem OwnB.row {w : World} {g base : Nat} {L : List UInt8} (h : w.rowIs g 5 L.length (bv L)) (hb : base ≤ g) (hl : L.length ≤ 65536) : OwnB w base (.slice (some ⟨g, 0, none⟩) L.length L.length) L := by
  refine ⟨by simp, .inr ⟨g, L.length, (L.map byt).toArray, rfl, hb, rowB_heap h, by simp, by unfold maxLen; omega, by simp, ?_⟩⟩
  rw [Nat.mul_one]
  exact List.take_of_length_le (by simp)
theorem info_u8 : (Try.prog.info? 5).map (fun i => (i.zero, i.size, i.bytes)) = some (some (.int .u8 0), 1, 1) := by kernel_rfl
theorem bytes_src {w : World} {M : Nat → Prop} {A : Option Addr} {bs : List UInt8} (h : BytesC w M A bs) : 0 < bs.length → ∃ ad, A = some ad ∧ ∀ j u, (bs.map byt)[j]? = some u → w.cell? (ad.add j) = some u := fun h0 => by
  obtain ⟨ad, e, hh⟩ := Cells.flat h h0 (by omega)
  refine ⟨ad, e, fun j u hj => hh j u ?_⟩
  rw [List.getElem?_map] at hj
  rw [Option.map_eq_some_iff] at hj
  obtain ⟨y, hy, rfl⟩ := hj
  have hl := (List.getElem?_eq_some_iff.1 hy).1
  have hy' := (List.getElem?_eq_some_iff.1 hy).2
  simp [flat, hl, hy']
section
variable {ops : Array Oper} {o : Oper} {a : Act} {rest : List Oper} {Q : Exit → Act → World → Prop} {E : Prop} {w W0 : World} {K : Act → World → Prop} {M : Nat → Prop}
theorem wp_appB (s x : Operand) (ho : o.op = .call { callee := .builtin .append, args := #[s, x], argTypes := #[35, 35] }) (base m : Nat) (v : Value) (L : List UInt8) (hs : a.eval s = v) (hown : OwnB w base v L)
    (A : Option Addr) (n c : Nat) (bs : List UInt8) (hx : a.eval x = .slice A n c) (hn : n = bs.length) (hb : BytesC w M A bs) (hl : L.length + bs.length ≤ 140737488355328) (hbase : base ≤ w.heap.size) (hm : m ≤ base) (hB : Below m W0 w)
    (h : ∀ v' w', Hid (OwnB w' base v' (L ++ bs)) → Hid (Below m W0 w') → Hid (base ≤ w'.heap.size) → K (a.put o.dst v') w') : o.wp Try.prog a w K Q := by
  obtain ⟨i, hi, hz0, hz1, hz2⟩ := info_parts info_u8
  refine wp_append_cells w s x 35 ho base 5 i (.int .u8 0) 1 1 Try.underlying35 hi hz0 hz1 hz2 rfl (by decide) v L.length (L.map byt) hs hown A n c (bs.map byt) hx (by rw [hn]; simp) (by rw [hn]; exact bytes_src hb) (by intro u hu; obtain ⟨y, _, rfl⟩ := List.mem_map.1 hu; rfl) (by rw [hn]; unfold maxLen; omega) (by rw [hn]; omega) hbase ?_
  intro v' w' h1 h2 h3
  have h4 : Below m W0 w' := hB.grown h2 (by omega) (fun k e => by
    have := own_ge hown e
    omega)
  refine h v' w' ?_ h4 ?_
  · show w'.ownsRow base _ 1 v' (L ++ bs).length ((L ++ bs).map byt)
    rw [List.length_append, List.map_append, ← hn]
    exact h1
  · exact Nat.le_trans hbase h2.size
/-- append in a region that draws, guarded or not -/
theorem step_appB (hw : Region.wanted o (yielded ops a.tmps) = true) (s x : Operand) (ho : o.op = .call { callee := .builtin .append, args := #[s, x], argTypes := #[35, 35] }) (base m : Nat) (v : Value) (L : List UInt8) (hs : a.eval s = v) (hown : OwnB w base v L)
    (A : Option Addr) (n c : Nat) (bs : List UInt8) (hx : a.eval x = .slice A n c) (hn : n = bs.length) (hb : BytesC w M A bs) (hl : L.length + bs.length ≤ 140737488355328) (hbase : base ≤ w.heap.size) (hm : m ≤ base) (hB : Below m W0 w)
    (h : ∀ v' w', Hid (OwnB w' base v' (L ++ bs)) → Hid (Below m W0 w') → Hid (base ≤ w'.heap.size) → K (a.put o.dst v') w') : if Region.wanted o (yielded ops a.tmps) = true then Oper.wp Try.prog o a w K Q else E := by
  rw [if_pos hw]
  exact wp_appB s x ho base m v L hs hown A n c bs hx hn hb hl hbase hm hB h
theorem wpList_appB (hgd : o.guard = none) (s x : Operand) (ho : o.op = .call { callee := .builtin .append, args := #[s, x], argTypes := #[35, 35] }) (base m : Nat) (v : Value) (L : List UInt8) (hs : a.eval s = v) (hown : OwnB w base v L)
    (A : Option Addr) (n c : Nat) (bs : List UInt8) (hx : a.eval x = .slice A n c) (hn : n = bs.length) (hb : BytesC w M A bs) (hl : L.length + bs.length ≤ 140737488355328) (hbase : base ≤ w.heap.size) (hm : m ≤ base) (hB : Below m W0 w)
    (h : ∀ v' w', Hid (OwnB w' base v' (L ++ bs)) → Hid (Below m W0 w') → Hid (base ≤ w'.heap.size) → wpList Try.prog ops Q rest (a.put o.dst v') w') : wpList Try.prog ops Q (o :: rest) a w := by
  obtain ⟨i, hi, hz0, hz1, hz2⟩ := info_parts info_u8
  refine wpList_append_cells w hgd s x 35 ho base 5 i (.int .u8 0) 1 1 Try.underlying35 hi hz0 hz1 hz2 rfl (by decide) v L.length (L.map byt) hs hown A n c (bs.map byt) hx (by rw [hn]; simp) (by rw [hn]; exact bytes_src hb) (by intro u hu; obtain ⟨y, _, rfl⟩ := List.mem_map.1 hu; rfl) (by rw [hn]; unfold maxLen; omega) (by rw [hn]; omega) hbase ?_
  intro v' w' h1 h2 h3
  have h4 : Below m W0 w' := hB.grown h2 (by omega) (fun k e => by
    have := own_ge hown e
    omega)
  refine h v' w' ?_ h4 ?_
  · show w'.ownsRow base _ 1 v' (L ++ bs).length ((L ++ bs).map byt)
    rw [List.length_append, List.map_append, ← hn]
    exact h1
  · exact Nat.le_trans hbase h2.size
end
end Go.Proofs.Ytocjhepiooljpaa
