/- The memory of Max's outer loop. -/
import Derived.Test.YtikddknhcfhnbaaC3
import Derived.Test.YtikddknhcfhnbaaZ2
namespace Go.Proofs.Ytikddknhcfhnbaa
open Go.RowKit Go.Deep
/-- at the head of Max's outer loop: the network's box at the very start, the links' and the sink's and the level's box behind it -/
structure MaxM (w wr : World) (n : NetD) (V : Nat) (va : Value) (X : Nat → Value) (bh bs bv g lb base : Nat) (fo bk : Nat → Int) : Prop where
  bel : Below w.heap.size w wr
  nb : wr.heap[w.heap.size]? = some (.cells #[.int .i64 n.vs, va] 24 (0, 0))
  gh : wr.heap[bh]? = some (.cells #[ptr g] 53 (0, 0))
  sk : wr.heap[bs]? = some (.cells #[.int .i64 ((V : Int) - 1)] 3 (0, 0))
  lvb : ∃ x, wr.heap[bv]? = some (.cells #[x] 25 (0, 0))
  links : LinksW wr base g lb n.arcs.length X (adjT n.arcs n.arcs.length) fo bk
  rl : ∀ v, v < 512 → ∀ b, (X v).ownBlock = some b → b < bh
  o1 : w.heap.size < g ∧ w.heap.size < lb ∧ base ≤ bh ∧ bh < bs ∧ bs < bv
section
variable {w wr W : World} {n : NetD} {V : Nat} {va : Value} {X : Nat → Value} {bh bs bv g lb base : Nat} {fo bk : Nat → Int}
theorem MaxM.below (h : MaxM w wr n V va X bh bs bv g lb base fo bk) (hb : Below wr.heap.size wr W) : MaxM w W n V va X bh bs bv g lb base fo bk := by
  obtain ⟨x, hx⟩ := h.lvb
  have q := fun (b : Nat) (o : Obj) (ho : wr.heap[b]? = some o) => (hb.block b (lt_heap ho)).trans ho
  exact ⟨h.bel.trans (hb.mono h.bel.size), q _ _ h.nb, q _ _ h.gh, q _ _ h.sk, ⟨x, q _ _ hx⟩, h.links.below hb, h.rl, h.o1⟩
/-- the level is laid -/
theorem MaxM.setv (h : MaxM w wr n V va X bh bs bv g lb base fo bk) (x : Value) : MaxM w (wr.setCell ⟨bv, 0, none⟩ x) n V va X bh bs bv g lb base fo bk ∧ (wr.setCell ⟨bv, 0, none⟩ x).heap[bv]? = some (.cells #[x] 25 (0, 0)) := by
  obtain ⟨y, hy⟩ := h.lvb
  have o1 := h.o1
  have hgb := h.links.adj.lt
  have hlb := h.links.lt
  have ev : (wr.setCell ⟨bv, 0, none⟩ x).heap[bv]? = some (.cells #[x] 25 (0, 0)) := by rw [heap_set_if, if_pos rfl, hy]; rfl
  have q : ∀ k, k ≠ bv → (wr.setCell ⟨bv, 0, none⟩ x).heap[k]? = wr.heap[k]? := fun k hk => by rw [heap_set_if, if_neg hk]
  refine ⟨⟨h.bel.setCell (by show w.heap.size ≤ bv; omega) _, (q _ (by omega)).trans h.nb, (q _ (by omega)).trans h.gh, (q _ (by omega)).trans h.sk, ⟨x, ev⟩, ?_, h.rl, h.o1⟩, ev⟩
  obtain ⟨cs, t, hg, hgc⟩ := h.links.adj.box
  obtain ⟨ds, hl⟩ := h.links.lbox
  refine ⟨⟨⟨cs, t, (q _ (by omega)).trans hg, hgc⟩, fun v hv => own_kept (h.links.adj.own v hv) fun b hb _ => q b (by have := h.rl v hv b hb; omega), h.links.adj.sep, h.links.adj.lt⟩, h.links.left.keep (q _ (by omega)) (q _ (by omega)), ⟨ds, (q _ (by omega)).trans hl⟩, h.links.ne, h.links.lt⟩
/-- the memory of advance out of Max's -/
theorem MaxM.faw (h : MaxM w wr n V va X bh bs bv g lb base fo bk) (hva : IsArcs w (fun _ => True) va n.arcs) {lv : Nat → Int} {bx bf bu bl : Nat} (hx : wr.heap[bx]? = some (.cells #[.slice (some ⟨bu, 0, none⟩) V V] 25 (0, 0)))
    (hv : wr.heap[bv]? = some (.cells #[.slice (some ⟨bl, 0, none⟩) V V] 25 (0, 0))) (hf : wr.heap[bf]? = some (.cells #[.func (.func 28) #[] #[ptr bs, ptr bx, ptr bh, ptr w.heap.size, ptr bv, ptr bf]] 56 (0, 0)))
    (hr : wr.rowIs bl 3 V (fun i => .int .i64 (lv i))) (h1 : bv < bu) (h2 : bx ≠ bu) (h3 : bf ≠ bu) (h4 : bl ≠ bu) (h5 : bv < bx) (h6 : bv < bf) (h7 : bv < bl) :
    FAW w.heap.size wr n V lv X bs bx bh w.heap.size bv bf bu g lb bl base := by
  have o1 := h.o1
  have hgb := h.links.adj.lt
  have hlb := h.links.lt
  have hne := h.links.ne
  have hL := h.links.left.at_
  refine ⟨h.sk, hx, h.gh, ⟨va, h.nb, ?_⟩, hv, hf, h.links.adj, h.links.left.at_, hr, fun b hb => ?_, fun v hv b hb => ?_, by omega, by omega⟩
  · exact IsSl.mono (IsSl.below (IsSl.mono hva (M' := NB [bu, lb]) (fun b hb _ => by simp [NB]; omega) (by decide)) h.bel) (fun _ _ hb => hb) (by decide)
  · simp only [List.mem_cons, List.not_mem_nil, or_false] at hb
    rcases hb with rfl | rfl | rfl | rfl | rfl | rfl | rfl | rfl <;> omega
  · have a := h.rl v hv b hb
    have c := (own_lt (h.links.adj.own v hv) b hb).1
    omega
theorem MaxM.daw (h : MaxM w wr n V va X bh bs bv g lb base fo bk) {bu : Nat} {us : Nat → Nat} (hu : wr.rowIs bu 3 V (fun i => .int .i64 (us i : Int))) : DAW wr bu lb n.arcs.length V us fo bk := by
  obtain ⟨cs, hc⟩ := h.links.lbox
  refine ⟨hu, cs, hc, fun i hi => ?_⟩
  have h1 := h.links.left.fo i hi
  have h2 := h.links.left.bk i hi
  simp [World.cell?, hc] at h1 h2
  exact ⟨h1, h2⟩
/-- and back -/
theorem MaxM.back (h : MaxM w wr n V va X bh bs bv g lb base fo bk) {bu : Nat} {us : Nat → Nat} {fo' bk' : Nat → Int} (hk : KB w.heap.size [bu, lb] wr W) (hd : DAW W bu lb n.arcs.length V us fo' bk') (h1 : bv < bu) : MaxM w W n V va X bh bs bv g lb base fo' bk' := by
  obtain ⟨x, hx⟩ := h.lvb
  have o1 := h.o1
  have hgb := h.links.adj.lt
  have hlb := h.links.lt
  have hne := h.links.ne
  have q := fun (b : Nat) (o : Obj) (ho : wr.heap[b]? = some o) (e1 : b ≠ bu) (e2 : b ≠ lb) => (hk.kp.block b (lt_heap ho) (by simp; exact ⟨e1, e2⟩)).trans ho
  obtain ⟨cs, t, hg, hgc⟩ := h.links.adj.box
  have hgk := q _ _ hg (by omega) (by omega)
  obtain ⟨ds, hl, hlc⟩ := hd.lr
  refine ⟨⟨hk.bel.os.trans h.bel.os, hk.bel.tape.trans h.bel.tape, hk.bel.output.trans h.bel.output, Nat.le_trans h.bel.size hk.kp.size, fun k hkk => (hk.bel.block k hkk).trans (h.bel.block k hkk)⟩, q _ _ h.nb (by omega) (by omega), q _ _ h.gh (by omega) (by omega), q _ _ h.sk (by omega) (by omega), ⟨x, q _ _ hx (by omega) (by omega)⟩, ?_, h.rl, h.o1⟩
  refine ⟨⟨⟨cs, t, hgk, hgc⟩, fun v hv => own_kept (h.links.adj.own v hv) fun b hb hbl => hk.kp.block b hbl (by have a := h.rl v hv b hb; have c := (own_lt (h.links.adj.own v hv) b hb).1; simp; omega), h.links.adj.sep, h.links.adj.lt⟩, ⟨?_, fun i hi => cell_of hl (hlc i hi).1, fun i hi => cell_of hl (hlc i hi).2⟩, ⟨ds, hl⟩, h.links.ne, h.links.lt⟩
  exact (World.cell?_of_block (a := ⟨g, 512, none⟩) (hgk.trans hg.symm)).trans h.links.left.at_
/-- append of one int onto an own row -/
theorem wpList_int {ops : Array Oper} {rest : List Oper} {o : Oper} {a : Act} {w : World} {Q : Exit → Act → World → Prop} (hg : o.guard = none) (s x : Operand) (hop : o.op = .call { callee := .builtin .append, args := #[s, x], argTypes := #[25, 25] })
    (base : Nat) (l : List Int) (y : Int) {v : Value} {b : Nat} {c : Nat} (hs : a.eval s = v) (hown : w.ownsRow base 3 1 v l.length (l.map i64v)) (hx : a.eval x = .slice (some ⟨b, 0, none⟩) 1 c) (hc : w.cell? ⟨b, 0, none⟩ = some (.int .i64 y)) (hl : l.length < 100000) (hbase : base ≤ w.heap.size)
    (h : ∀ A d w', Hid (w'.ownsRow base 3 1 (.slice A (l.length + 1) d) (l ++ [y]).length ((l ++ [y]).map i64v) ∧ Below base w w' ∧ ∀ k, k < w.heap.size → v.ownBlock ≠ some k → w'.heap[k]? = w.heap[k]?) → wpList Try.prog ops Q rest (a.put o.dst (.slice A (l.length + 1) d)) w') : wpList Try.prog ops Q (o :: rest) a w := by
  obtain ⟨i, hi, hz, hsz, hb⟩ := info_parts Try.infoI64
  refine wpList_append_cells w hg s x 25 hop base 3 i _ 1 8 Try.underlying25 hi hz hsz hb rfl (by decide) v l.length (l.map i64v) hs hown (some ⟨b, 0, none⟩) 1 c [i64v y] hx rfl (fun _ => ⟨_, rfl, fun j u hj => ?_⟩) (one_i64 y) (by unfold maxLen; omega) (by omega) hbase fun v' w' h1 h2 h3 => ?_
  · have hj0 : j = 0 := by have := (List.getElem?_eq_some_iff.1 hj).1; simp at this; exact this
    subst hj0
    have hu : u = i64v y := by simpa using hj.symm
    subst hu
    rw [addr_add]; exact hc
  · obtain ⟨A, d, rfl⟩ := own_sl h1
    refine h A d w' (Lib.hid ⟨by rw [List.length_append, List.map_append]; exact h1, (Below.refl base w).grown h2 hbase fun k e => ?_, fun k hk hne => h2.block k hk fun e => hne e.symm⟩)
    exact (own_lt hown k e).1
end
end Go.Proofs.Ytikddknhcfhnbaa
