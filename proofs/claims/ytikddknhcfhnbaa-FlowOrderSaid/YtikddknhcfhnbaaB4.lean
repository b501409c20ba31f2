/- newLinks. -/
import Derived.Test.YtikddknhcfhnbaaB3
import Derived.Deep.DeepCutAuto
namespace Go.Proofs.Ytikddknhcfhnbaa
open Go.RowKit
/-- the rows of arcs at each vertex, by the first k arcs -/
def adjT (l : List ArcD) : Nat → Nat → List Int
  | 0, _ => []
  | k + 1, v => updV (updV (adjT l k) (nthA l k).src.toNat (adjT l k (nthA l k).src.toNat ++ [(k : Int)])) (nthA l k).dst.toNat (updV (adjT l k) (nthA l k).src.toNat (adjT l k (nthA l k).src.toNat ++ [(k : Int)]) (nthA l k).dst.toNat ++ [-1 - (k : Int)]) v
theorem adjT_len (l : List ArcD) : ∀ k v, (adjT l k v).length ≤ 2 * k
  | 0, _ => Nat.zero_le _
  | k + 1, v => by
    have ih := adjT_len l k
    unfold adjT
    generalize (nthA l k).dst.toNat = d
    generalize (nthA l k).src.toNat = s
    by_cases e : v = d
    · subst e
      rw [updV_same, List.length_append]
      by_cases e2 : v = s
      · subst e2
        rw [updV_same, List.length_append]
        have := ih v
        simp; omega
      · rw [updV_other e2]
        have := ih v
        simp; omega
    · rw [updV_other e]
      by_cases e2 : v = s
      · subst e2
        rw [updV_same, List.length_append]
        have := ih v
        simp; omega
      · rw [updV_other e2]
        have := ih v
        omega
/-- the links' memory -/
structure LinksW (w : World) (base g lb m : Nat) (X : Nat → Value) (F : Nat → List Int) (fo bk : Nat → Int) : Prop where
  adj : AdjW w base g 512 X F
  left : LeftW w g lb m fo bk
  lbox : ∃ cs, w.heap[lb]? = some (.cells cs 65 (0, 0))
  ne : g ≠ lb
  lt : lb < base
/-- what is left of the arcs when the first k are laid -/
def foT (l : List ArcD) (k i : Nat) : Int := if i < k then (nthA l i).cap else 0
theorem Try.info_links : (Try.prog.info? 60).map (fun i => (i.zero, i.size, i.bytes)) = some (some (.agg (List.replicate 513 (Value.slice none 0 0)).toArray), 513, 12312) := by kernel_rfl
theorem zero_at {t : TypeId} {i : TypeInfo} {z : Value} (W : World) (hi : Try.prog.info? t = some i) (hz : i.zero = some z) : Sem.run Try.prog (zeroValue t) W = .ok z W := by
  simp [zeroValue, typeInfo, hi, hz]
theorem repl_at {n v : Nat} (h : v < n) (x : Value) : (List.replicate n x).toArray[v]? = some x := by simp [h]
theorem repl_size (n : Nat) (x : Value) : (List.replicate n x).toArray.size = n := by simp
theorem zero_links (W : World) : Sem.run Try.prog (zeroValue 60) W = .ok (.agg (List.replicate 513 (Value.slice none 0 0)).toArray) W := by
  obtain ⟨i, hi, hz, hs, hb⟩ := info_parts Try.info_links
  exact zero_at W hi hz
theorem madePairs_at (m i : Nat) (hi : i < m) : (madeCells #[.int .i64 0, .int .i64 0] (m * 2))[i * 2]? = some (i64v 0) ∧ (madeCells #[.int .i64 0, .int .i64 0] (m * 2))[i * 2 + 1]? = some (i64v 0) := by
  have h1 : i * 2 < m * 2 := by omega
  have h2 : i * 2 + 1 < m * 2 := by omega
  have h3 : i * 2 % 2 = 0 := by omega
  have h4 : (i * 2 + 1) % 2 = 1 := by omega
  simp [madeCells, h1, h2, h3, h4, i64v]
/-- the links before the first arc -/
theorem links_start (w : World) (o : Obj) (m : Nat) : LinksW (((w.alloc o).alloc (.cells (madeCells #[.int .i64 0, .int .i64 0] (m * 2)) 65)).alloc (.cells ((List.replicate 513 (Value.slice none 0 0)).toArray.setIfInBounds 512 (.slice (some ⟨w.heap.size + 1, 0, none⟩) m m)) 60)) (w.heap.size + 3) (w.heap.size + 2) (w.heap.size + 1) m (fun _ => .slice none 0 0) (fun _ => []) (fun _ => 0) (fun _ => 0) := by
  have hg : (((w.alloc o).alloc (.cells (madeCells #[.int .i64 0, .int .i64 0] (m * 2)) 65)).alloc (.cells ((List.replicate 513 (Value.slice none 0 0)).toArray.setIfInBounds 512 (.slice (some ⟨w.heap.size + 1, 0, none⟩) m m)) 60)).heap[w.heap.size + 2]? = some (.cells ((List.replicate 513 (Value.slice none 0 0)).toArray.setIfInBounds 512 (.slice (some ⟨w.heap.size + 1, 0, none⟩) m m)) 60 (0, 0)) := by
    rw [heap_alloc_if, if_pos (by simp)]
  have hl : (((w.alloc o).alloc (.cells (madeCells #[.int .i64 0, .int .i64 0] (m * 2)) 65)).alloc (.cells ((List.replicate 513 (Value.slice none 0 0)).toArray.setIfInBounds 512 (.slice (some ⟨w.heap.size + 1, 0, none⟩) m m)) 60)).heap[w.heap.size + 1]? = some (.cells (madeCells #[.int .i64 0, .int .i64 0] (m * 2)) 65 (0, 0)) := by
    rw [heap_alloc_if, if_neg (by simp), heap_alloc_if, if_pos (by simp)]
  refine ⟨⟨⟨_, _, hg, fun v hv => ?_⟩, fun v hv => own_nil _ _ _ _, fun u v _ _ _ b e => by simp [Value.ownBlock] at e, by omega⟩, ⟨cell_of hg ?_, fun i hi => cell_of hl (madePairs_at m i hi).1, fun i hi => cell_of hl (madePairs_at m i hi).2⟩, ⟨_, hl⟩, by omega, by omega⟩
  · rw [Array.getElem?_setIfInBounds_ne (by omega)]
    exact repl_at (by omega) _
  · rw [Array.getElem?_setIfInBounds_self_of_lt (by rw [repl_size]; omega)]
section
variable {w w' W : World} {base g lb m : Nat} {X : Nat → Value} {F : Nat → List Int} {fo bk : Nat → Int}
theorem LeftW.keep (h : LeftW w g lb m fo bk) (h1 : w'.heap[g]? = w.heap[g]?) (h2 : w'.heap[lb]? = w.heap[lb]?) : LeftW w' g lb m fo bk := by
  have c : ∀ p : Addr, w'.heap[p.block]? = w.heap[p.block]? → w'.cell? p = w.cell? p := fun p e => World.cell?_of_block e
  exact ⟨(c ⟨g, 512, none⟩ h1).trans h.at_, fun i hi => (c ⟨lb, _, none⟩ h2).trans (h.fo i hi), fun i hi => (c ⟨lb, _, none⟩ h2).trans (h.bk i hi)⟩
theorem LinksW.below (h : LinksW w base g lb m X F fo bk) (hb : Below w.heap.size w w') : LinksW w' base g lb m X F fo bk := by
  obtain ⟨cs, hc⟩ := h.lbox
  exact ⟨h.adj.below hb, h.left.keep (hb.block _ h.adj.glt) (hb.block _ (lt_heap hc)), ⟨cs, (hb.block _ (lt_heap hc)).trans hc⟩, h.ne, h.lt⟩
theorem LinksW.drew (h : LinksW w base g lb m X F fo bk) : LinksW w.drew base g lb m X F fo bk := h.below (below_drewN (Below.refl _ _) 1)
/-- one more int in a row -/
theorem LinksW.push (h : LinksW w base g lb m X F fo bk) {v : Nat} (hv : v < 512) (hw : Below w.heap.size w W) {x : Value} {y : Int} (ho : w'.ownsRow base 3 1 x ((F v).length + 1) ((F v).map i64v ++ [i64v y])) (hg : W.grownBy w' (X v).ownBlock) (hx : x.ownBlock = (X v).ownBlock ∨ x.ownBlock = some W.heap.size) :
    LinksW (w'.setCell ⟨g, v, none⟩ x) base g lb m (updV X v x) (updV F v (F v ++ [y])) fo bk := by
  have H := h.below hw
  have hne : ∀ b, b < base → (X v).ownBlock ≠ some b := fun b hb e => by have := (own_lt (H.adj.own v hv) b e).1; omega
  have hgl := h.adj.lt
  have hll := h.lt
  have e1 : w'.heap[g]? = W.heap[g]? := hg.block g H.adj.glt fun e => hne g hgl e.symm
  obtain ⟨cs, hc⟩ := H.lbox
  have e2 : w'.heap[lb]? = W.heap[lb]? := hg.block lb (lt_heap hc) fun e => hne lb hll e.symm
  have e3 : (w'.setCell ⟨g, v, none⟩ x).heap[lb]? = w'.heap[lb]? := by rw [heap_set_if, if_neg (fun e => h.ne e.symm)]
  refine ⟨h.adj.push hv hw ho hg hx, ?_, ⟨cs, (e3.trans e2).trans hc⟩, h.ne, h.lt⟩
  have hl := H.left.keep e1 e2
  have c : ∀ p : Addr, p.block = lb → (w'.setCell ⟨g, v, none⟩ x).cell? p = w'.cell? p := fun p e => World.cell?_of_block (by rw [e]; exact e3)
  refine ⟨?_, fun i hi => (c ⟨lb, _, none⟩ rfl).trans (hl.fo i hi), fun i hi => (c ⟨lb, _, none⟩ rfl).trans (hl.bk i hi)⟩
  have h5 := hl.at_
  obtain ⟨ds, t, hd, -⟩ := H.adj.box
  have hd' := e1.trans hd
  have h6 : ds[512]? = some (.slice (some ⟨lb, 0, none⟩) m m) := by simpa [World.cell?, hd'] using h5
  refine cell_of (cs := ds.setIfInBounds v x) (t := t) (z := (0, 0)) (by rw [heap_set_if, if_pos rfl, hd']; rfl) ?_
  rw [Array.getElem?_setIfInBounds_ne (by omega)]; exact h6
/-- a pair stored -/
theorem LinksW.pair (h : LinksW w base g lb m X F fo bk) {i : Nat} (hi : i < m) (x y : Int) : LinksW ((w.setCell ⟨lb, i * 2, none⟩ (i64v x)).setCell ⟨lb, i * 2 + 1, none⟩ (i64v y)) base g lb m X F (updI fo i x) (updI bk i y) := by
  obtain ⟨cs, hc⟩ := h.lbox
  have hb : ((w.setCell ⟨lb, i * 2, none⟩ (i64v x)).setCell ⟨lb, i * 2 + 1, none⟩ (i64v y)).heap[lb]? = some (.cells ((cs.setIfInBounds (i * 2) (i64v x)).setIfInBounds (i * 2 + 1) (i64v y)) 65 (0, 0)) := by
    rw [heap_set_if, if_pos rfl, heap_set_if, if_pos rfl, hc]; rfl
  have hcell : ∀ j, j < m → cs[j * 2]? = some (i64v (fo j)) ∧ cs[j * 2 + 1]? = some (i64v (bk j)) := fun j hj => by
    have h1 := h.left.fo j hj
    have h2 := h.left.bk j hj
    simp [World.cell?, hc] at h1 h2
    exact ⟨h1, h2⟩
  refine ⟨(h.adj.beside (fun e => h.ne e.symm) h.lt _ _).beside (fun e => h.ne e.symm) h.lt _ _, ⟨?_, fun j hj => cell_of hb ?_, fun j hj => cell_of hb ?_⟩, ⟨_, hb⟩, h.ne, h.lt⟩
  · refine Eq.trans (World.cell?_of_block ?_) h.left.at_
    show ((w.setCell ⟨lb, i * 2, none⟩ (i64v x)).setCell ⟨lb, i * 2 + 1, none⟩ (i64v y)).heap[g]? = w.heap[g]?
    rw [heap_set_if, if_neg h.ne, heap_set_if, if_neg h.ne]
  · have h1 := (hcell j hj).1
    have hs := (Array.getElem?_eq_some_iff.1 h1).1
    rw [Array.getElem?_setIfInBounds_ne (by omega)]
    by_cases e : j = i
    · subst e; rw [updI_same, Array.getElem?_setIfInBounds_self_of_lt hs]; rfl
    · rw [updI_other e, Array.getElem?_setIfInBounds_ne (by omega)]; exact h1
  · have h1 := (hcell j hj).2
    have hs := (Array.getElem?_eq_some_iff.1 h1).1
    by_cases e : j = i
    · subst e; rw [updI_same, Array.getElem?_setIfInBounds_self_of_lt (by simpa using hs)]; rfl
    · rw [updI_other e, Array.getElem?_setIfInBounds_ne (by omega), Array.getElem?_setIfInBounds_ne (by omega)]; exact h1
end
end Go.Proofs.Ytikddknhcfhnbaa
