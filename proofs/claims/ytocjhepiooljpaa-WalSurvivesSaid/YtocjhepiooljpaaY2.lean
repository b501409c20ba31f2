/- What WalSurvives keeps in memory: the disk's box, the records kept, the log's box. -/
import Derived.Test.YtocjhepiooljpaaS10
import Derived.Test.YtocjhepiooljpaaA22
namespace Go.Proofs.Ytocjhepiooljpaa
open Go.RowKit Go.Deep Go.Shelf

/-- the disk's box and the records kept, both outside of the boxes l -/
structure SvS (w : World) (n5 : Nat) (l : List Nat) (x0 x1 x2 x3 : Value) (D : DiskD) (kv : Value) (ks : List (List UInt8)) (W : World) : Prop where
  b5 : W.heap[n5]? = some (.cells #[x0, x1, x2, x3] 25 (0, 0))
  disk : IsDisk W (NB l) (.agg #[x0, x1, x2, x3]) D
  kept : IsMat W (NB l) kv ks
  below : Below w.heap.size w W
  low : w.heap.size ≤ n5
  mem : n5 ∈ l
  inw : InW l W
  all : ∀ b ∈ l, w.heap.size ≤ b
section
variable {w W W' : World} {n5 : Nat} {l : List Nat} {x0 x1 x2 x3 : Value} {D : DiskD} {kv : Value} {ks : List (List UInt8)}
theorem SvS.next (h : SvS w n5 l x0 x1 x2 x3 D kv ks W) (hb : Below W.heap.size W W') : SvS w n5 l x0 x1 x2 x3 D kv ks W' :=
  ⟨(hb.block _ (lt_heap h.b5)).trans h.b5, h.disk.below hb, h.kept.below hb, h.below.trans (hb.mono h.below.size), h.low, h.mem, h.inw.mono hb.size, h.all⟩
/-- one box more -/
theorem SvS.box (h : SvS w n5 l x0 x1 x2 x3 D kv ks W) (o : Obj) : SvS w n5 (W.heap.size :: l) x0 x1 x2 x3 D kv ks (W.alloc o) := by
  have hb : Below W.heap.size W (W.alloc o) := (Below.refl _ _).alloc (Nat.le_refl _) _
  refine ⟨(hb.block _ (lt_heap h.b5)).trans h.b5, (h.disk.mono fun b hlt hM => NB.cons hlt hM).below hb, (h.kept.mono fun b hlt hM => NB.cons hlt hM).below hb, h.below.trans (hb.mono h.below.size), h.low, List.mem_cons_of_mem _ h.mem, (h.inw.mono hb.size).cons (by simp), fun b hb => ?_⟩
  rcases List.mem_cons.1 hb with rfl | hb
  · exact h.below.size
  · exact h.all b hb
/-- a disk is stored -/
theorem SvS.store (h : SvS w n5 l x0 x1 x2 x3 D kv ks W) {y0 y1 y2 y3 : Value} {E : DiskD} (hd : IsDisk W (NB l) (.agg #[y0, y1, y2, y3]) E) :
    SvS w n5 l y0 y1 y2 y3 E kv ks ((((W.setCell ⟨n5, 0, none⟩ y0).setCell ⟨n5, 1, none⟩ y1).setCell ⟨n5, 2, none⟩ y2).setCell ⟨n5, 3, none⟩ y3) := by
  have hk : Off n5 W ((((W.setCell ⟨n5, 0, none⟩ y0).setCell ⟨n5, 1, none⟩ y1).setCell ⟨n5, 2, none⟩ y2).setCell ⟨n5, 3, none⟩ y3) := ((((Off.refl _ _).setCell 0 y0).setCell 1 y1).setCell 2 y2).setCell 3 y3
  have hx : ∀ b, NB l b → b ≠ n5 := fun b hb e => hb (e ▸ h.mem)
  have hlow := h.low
  refine ⟨set4 h.b5 _ _ _ _, hd.keep fun p hp _ => hk p (hx _ hp), h.kept.keep fun p hp _ => hk p (hx _ hp), ?_, h.low, h.mem, h.inw.mono (by simp only [size_set]; exact Nat.le_refl _), h.all⟩
  exact (((h.below.setCell hlow _).setCell hlow _).setCell hlow _).setCell hlow _
/-- another of the boxes is written -/
theorem SvS.other (h : SvS w n5 l x0 x1 x2 x3 D kv ks W) {g : Nat} (hg : g ∈ l) (hne : g ≠ n5) (j : Nat) (u : Value) : SvS w n5 l x0 x1 x2 x3 D kv ks (W.setCell ⟨g, j, none⟩ u) := by
  have hx : ∀ b, NB l b → b ≠ g := fun b hb e => hb (e ▸ hg)
  have hk : Off g W (W.setCell ⟨g, j, none⟩ u) := (Off.refl _ _).setCell j u
  refine ⟨by rw [heap_set_if, if_neg (fun e => hne e.symm)]; exact h.b5, h.disk.keep fun p hp _ => hk p (hx _ hp), h.kept.keep fun p hp _ => hk p (hx _ hp), h.below.setCell (h.all g hg) _, h.low, h.mem, h.inw.mono (by simp only [size_set]; exact Nat.le_refl _), h.all⟩
end
end Go.Proofs.Ytocjhepiooljpaa
