/- The memory of Max; push as one step. -/
import Derived.Test.YtikddknhcfhnbaaC1
import Derived.Test.YtikddknhcfhnbaaZ2
namespace Go.Proofs.Ytikddknhcfhnbaa
open Go.RowKit Go.Deep
def ptr (b : Nat) : Value := .pointer (some ⟨b, 0, none⟩)
/-- but the blocks of l all is as it was, and nothing below B has changed -/
structure KB (B : Nat) (l : List Nat) (w w' : World) : Prop where
  kp : Kp l w w'
  bel : Below B w w'
section
variable {B : Nat} {w w' w'' : World} {l : List Nat} {b : Nat}
theorem KB.refl (B : Nat) (l : List Nat) (w : World) : KB B l w w := ⟨Kp.refl l w, Below.refl B w⟩
theorem KB.trans (h : KB B l w w') (k : KB B l w' w'') : KB B l w w'' := ⟨h.kp.trans k.kp, h.bel.trans k.bel⟩
theorem KB.drew (h : KB B l w w') : KB B l w w'.drew := ⟨h.kp.drew, h.bel.drew⟩
theorem KB.setCell (h : KB B l w w') (hb : b ∈ l) (hB : B ≤ b) (j : Nat) (u : Value) : KB B l w (w'.setCell ⟨b, j, none⟩ u) := ⟨h.kp.setCell hb j u, h.bel.setCell hB u⟩
theorem KB.ofB (hB : B ≤ w.heap.size) (hb : Below w.heap.size w w') : KB B l w w' := ⟨⟨hb.size, fun k hk _ => hb.block k hk⟩, hb.mono hB⟩
end
/-- what does not change while advance works -/
structure FAW (B : Nat) (w : World) (n : NetD) (V : Nat) (lv : Nat → Int) (X : Nat → Value) (bs bx bh bn bv bf bu g lb bl base : Nat) : Prop where
  sk : w.heap[bs]? = some (.cells #[.int .i64 ((V : Int) - 1)] 3 (0, 0))
  ux : w.heap[bx]? = some (.cells #[.slice (some ⟨bu, 0, none⟩) V V] 25 (0, 0))
  gh : w.heap[bh]? = some (.cells #[ptr g] 53 (0, 0))
  nb : ∃ va, w.heap[bn]? = some (.cells #[.int .i64 n.vs, va] 24 (0, 0)) ∧ IsArcs w (NB [bu, lb]) va n.arcs
  lev : w.heap[bv]? = some (.cells #[.slice (some ⟨bl, 0, none⟩) V V] 25 (0, 0))
  fb : w.heap[bf]? = some (.cells #[.func (.func 28) #[] #[ptr bs, ptr bx, ptr bh, ptr bn, ptr bv, ptr bf]] 56 (0, 0))
  adj : AdjW w base g 512 X (adjT n.arcs n.arcs.length)
  at_ : w.cell? ⟨g, 512, none⟩ = some (.slice (some ⟨lb, 0, none⟩) n.arcs.length n.arcs.length)
  row : w.rowIs bl 3 V (fun i => .int .i64 (lv i))
  nl : ∀ b ∈ [bs, bx, bh, bn, bv, bf, g, bl], b ≠ bu ∧ b ≠ lb
  rn : ∀ v, v < 512 → ∀ b, (X v).ownBlock = some b → b ≠ bu ∧ b ≠ lb
  ne : bu ≠ lb
  bb : B ≤ bu ∧ B ≤ lb
/-- what changes: how far each vertex is used, what is left -/
structure DAW (w : World) (bu lb m V : Nat) (us : Nat → Nat) (fo bk : Nat → Int) : Prop where
  us : w.rowIs bu 3 V (fun i => .int .i64 (us i : Int))
  lr : ∃ cs, w.heap[lb]? = some (.cells cs 65 (0, 0)) ∧ ∀ i, i < m → cs[i * 2]? = some (i64v (fo i)) ∧ cs[i * 2 + 1]? = some (i64v (bk i))
section
variable {B : Nat} {w w' : World} {n : NetD} {V : Nat} {lv fo bk : Nat → Int} {us : Nat → Nat} {X : Nat → Value} {bs bx bh bn bv bf bu g lb bl base m : Nat}
theorem FAW.notin (h : FAW B w n V lv X bs bx bh bn bv bf bu g lb bl base) {b : Nat} (hb : b ∈ [bs, bx, bh, bn, bv, bf, g, bl]) : b ∉ [bu, lb] := by
  have := h.nl b hb
  simp; exact this
theorem FAW.kp (h : FAW B w n V lv X bs bx bh bn bv bf bu g lb bl base) (k0 : KB B [bu, lb] w w') : FAW B w' n V lv X bs bx bh bn bv bf bu g lb bl base := by
  have k := k0.kp
  have q := fun (b : Nat) (o : Obj) (hb : b ∈ [bs, bx, bh, bn, bv, bf, g, bl]) (ho : w.heap[b]? = some o) => (k.block b (lt_heap ho) (h.notin hb)).trans ho
  obtain ⟨va, n1, n2⟩ := h.nb
  obtain ⟨cs, t, hg, hgc⟩ := h.adj.box
  have hgk := k.block g (lt_heap hg) (h.notin (by simp))
  refine ⟨q _ _ (by simp) h.sk, q _ _ (by simp) h.ux, q _ _ (by simp) h.gh, ⟨va, q _ _ (by simp) n1, IsSl.kp n2 k⟩, q _ _ (by simp) h.lev, q _ _ (by simp) h.fb, ?_, ?_, ?_, h.nl, h.rn, h.ne, h.bb⟩
  · exact ⟨⟨cs, t, hgk.trans hg, hgc⟩, fun v hv => own_kept (h.adj.own v hv) fun b hb hl => k.block b hl (by have := h.rn v hv b hb; simp; exact this), h.adj.sep, h.adj.lt⟩
  · exact (World.cell?_of_block (a := ⟨g, 512, none⟩) hgk).trans h.at_
  · exact h.row.of_block (k.block bl h.row.lt (h.notin (by simp)))
theorem DAW.below (h : DAW w bu lb m V us fo bk) (hb : Below w.heap.size w w') : DAW w' bu lb m V us fo bk := by
  obtain ⟨cs, h1, h2⟩ := h.lr
  exact ⟨h.us.of_block (hb.block _ h.us.lt), cs, (hb.block _ (lt_heap h1)).trans h1, h2⟩
theorem DAW.left (h : FAW B w n V lv X bs bx bh bn bv bf bu g lb bl base) (d : DAW w bu lb n.arcs.length V us fo bk) : LeftW w g lb n.arcs.length fo bk := by
  obtain ⟨cs, h1, h2⟩ := d.lr
  exact ⟨h.at_, fun i hi => cell_of h1 (h2 i hi).1, fun i hi => cell_of h1 (h2 i hi).2⟩
theorem DAW.size (h : FAW B w n V lv X bs bx bh bn bv bf bu g lb bl base) (d : DAW w bu lb m V us fo bk) : B ≤ w.heap.size := by
  have := h.bb.1; have := d.us.lt; omega
/-- one more is used -/
theorem DAW.use (d : DAW w bu lb m V us fo bk) (hne : bu ≠ lb) (v k : Nat) : DAW (w.setCell ⟨bu, v, none⟩ (.int .i64 (k : Int))) bu lb m V (updV us v k) fo bk := by
  obtain ⟨cs, h1, h2⟩ := d.lr
  refine ⟨(d.us.set v _).congr fun i _ => ?_, cs, by rw [heap_set_if, if_neg fun e => hne e.symm]; exact h1, h2⟩
  unfold updV
  split <;> rfl
theorem DAW.pair (d : DAW w bu lb m V us fo bk) (hne : bu ≠ lb) {i : Nat} (hi : i < m) (x y : Int) (hw : w'.heap = ((w.setCell ⟨lb, i * 2, none⟩ (.int .i64 x)).setCell ⟨lb, i * 2 + 1, none⟩ (.int .i64 y)).heap) : DAW w' bu lb m V us (updI fo i x) (updI bk i y) := by
  obtain ⟨cs, h1, h2⟩ := d.lr
  have hb : w'.heap[lb]? = some (.cells ((cs.setIfInBounds (i * 2) (i64v x)).setIfInBounds (i * 2 + 1) (i64v y)) 65 (0, 0)) := by
    rw [hw, heap_set_if, if_pos rfl, heap_set_if, if_pos rfl, h1]; rfl
  refine ⟨d.us.of_block (by rw [hw, heap_set_if, if_neg hne, heap_set_if, if_neg hne]), _, hb, fun j hj => ?_⟩
  obtain ⟨p, q⟩ := h2 j hj
  have hs1 := (Array.getElem?_eq_some_iff.1 p).1
  have hs2 := (Array.getElem?_eq_some_iff.1 q).1
  by_cases e : j = i
  · subst e
    rw [updI_same, updI_same, Array.getElem?_setIfInBounds_ne (by omega), Array.getElem?_setIfInBounds_self_of_lt hs1, Array.getElem?_setIfInBounds_self_of_lt (by simpa using hs2)]
    exact ⟨rfl, rfl⟩
  · rw [updI_other e, updI_other e, Array.getElem?_setIfInBounds_ne (by omega), Array.getElem?_setIfInBounds_ne (by omega), Array.getElem?_setIfInBounds_ne (by omega), Array.getElem?_setIfInBounds_ne (by omega)]
    exact ⟨p, q⟩
theorem kb_pair (h : B ≤ lb) {i : Nat} {x y : Int} (hs : w'.os = w.os ∧ w'.tape = w.tape ∧ w'.output = w.output) (hw : w'.heap = ((w.setCell ⟨lb, i * 2, none⟩ (.int .i64 x)).setCell ⟨lb, i * 2 + 1, none⟩ (.int .i64 y)).heap) : KB B [bu, lb] w w' := by
  have hk : ∀ k, k ≠ lb → w'.heap[k]? = w.heap[k]? := fun k hk => by rw [hw, heap_set_if, if_neg hk, heap_set_if, if_neg hk]
  have hz : w.heap.size ≤ w'.heap.size := by rw [hw]; simp [World.setCell]
  exact ⟨⟨hz, fun k _ hl => hk k fun e => hl (by simp [e])⟩, hs.1, hs.2.1, hs.2.2, hz, fun k hkB => hk k (by omega)⟩
theorem push_code (h : FAW B w n V lv X bs bx bh bn bv bf bu g lb bl base) (d : DAW w bu lb n.arcs.length V us fo bk) (hn : NOk n V) (hr : Res n fo bk) (z x : Int) (hz : ixA z < n.arcs.length) (h0 : 0 ≤ x) (h1 : x ≤ rmA fo bk z) :
    Calls Try.prog 30 #[.pointer (some ⟨g, 0, none⟩), .int .i64 z, .int .i64 x] w fun e w' => e = .returned (.tuple #[]) ∧ KB B [bu, lb] w w' ∧ DAW w' bu lb n.arcs.length V us (psF fo z x) (psB bk z x) := by
  obtain ⟨cs, hlb, -⟩ := d.lr
  have hL := d.left h
  have hgl : g ≠ lb := (h.nl g (by simp)).2
  obtain ⟨a, b, c, e, -, -, -, -, hc⟩ := hn.arc (ixA z) hz
  have s1 := hr.sum (ixA z) hz
  have s2 := hr.fo0 (ixA z) hz
  have s3 := hr.bk0 (ixA z) hz
  rw [e] at s1
  dsimp only at s1
  rcases code_cases z with ⟨i, rfl, hi⟩ | ⟨i, rfl, hi⟩
  · rw [hi] at hz s1 s2 s3
    rw [rmA_fo] at h1
    rw [psF_fo, psB_fo]
    refine (push_fo w hL hgl hlb i hz x (IntWalk.i64_in _ (by omega)) (IntWalk.i64_in _ (by omega))).mono fun e w' hh => ⟨hh.1, kb_pair h.bb.2 hh.2.1 hh.2.2, d.pair h.ne hz _ _ hh.2.2⟩
  · rw [hi] at hz s1 s2 s3
    rw [rmA_bk] at h1
    rw [psF_bk, psB_bk]
    refine (push_bk w hL hgl hlb i hz hn.len x (IntWalk.i64_in _ (by omega)) (IntWalk.i64_in _ (by omega))).mono fun e w' hh => ⟨hh.1, kb_pair h.bb.2 hh.2.1 hh.2.2, d.pair h.ne hz _ _ hh.2.2⟩
end
end Go.Proofs.Ytikddknhcfhnbaa
