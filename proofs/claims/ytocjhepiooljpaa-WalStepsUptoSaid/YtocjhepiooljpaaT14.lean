import Derived.Test.YtocjhepiooljpaaT13
namespace Go.Proofs.Ytocjhepiooljpaa
open Go.RowKit Go.Shelf Go.Deep

/-- each of the values is a slice over a block of 128 zero bytes -/
def Zeros (w : World) (lo : Nat) (vals : List Value) : Prop := ∀ i, i < vals.length → ∃ g, lo ≤ g ∧ vals[i]? = some (.slice (some ⟨g, 0, none⟩) 128 128) ∧ w.heap[g]? = some (.cells z128.toArray 5 (0, 0))
theorem Zeros.grown {w w' : World} {lo base n : Nat} {v : Value} {vals xs : List Value} (h : Zeros w lo vals) (hg : w.grownBy w' v.ownBlock) (ho : w.ownsRow base 35 1 v n xs) : Zeros w' lo vals := fun i hi => by
  obtain ⟨g, h1, h2, h3⟩ := h i hi
  refine ⟨g, h1, h2, (hg.block g (lt_heap h3) fun e => ?_).trans h3⟩
  rcases ho.2 with ⟨rfl, _⟩ | ⟨r, cap, cur, rfl, _, hr, _⟩
  · cases e
  · simp [Value.ownBlock] at e
    rw [e, hr] at h3
    injection h3 with h3; injection h3 with _ h4; cases h4
theorem Zeros.keep {w w' : World} {lo : Nat} {vals : List Value} (h : Zeros w lo vals) (hk : ∀ g, lo ≤ g → g < w.heap.size → w'.heap[g]? = w.heap[g]?) : Zeros w' lo vals := fun i hi => by
  obtain ⟨g, h1, h2, h3⟩ := h i hi
  exact ⟨g, h1, h2, (hk g h1 (lt_heap h3)).trans h3⟩
theorem Zeros.snoc {w : World} {lo g : Nat} {vals : List Value} (h : Zeros w lo vals) (hl : lo ≤ g) (hg : w.heap[g]? = some (.cells z128.toArray 5 (0, 0))) : Zeros w lo (vals ++ [.slice (some ⟨g, 0, none⟩) 128 128]) := fun i hi => by
  by_cases e : i < vals.length
  · obtain ⟨g', h1, h2, h3⟩ := h i e
    exact ⟨g', h1, by rw [List.getElem?_append_left e]; exact h2, h3⟩
  · simp at hi
    obtain rfl : i = vals.length := by omega
    exact ⟨g, hl, by simp, hg⟩

theorem cell_one_new' {h : Nat} (w : World) (v : Value) (t : TypeId) (e : w.heap.size = h) : ∀ j u, [v][j]? = some u → (w.alloc (.cells #[v] t)).cell? ((⟨h, 0, none⟩ : Addr).add j) = some u := by subst e; exact cell_one_new _ _ _
theorem one_slice (A : Option Addr) (n c : Nat) : ∀ u ∈ [Value.slice A n c], u.oneCell' = true := fun u hu => by simp at hu; subst hu; rfl
theorem grown_old {w w' : World} {base e sz n k : Nat} {v : Value} {xs : List Value} (hg : w.grownBy w' v.ownBlock) (ho : w.ownsRow base e sz v n xs) (hk : k < base) (hl : k < w.heap.size) : w'.heap[k]? = w.heap[k]? :=
  hg.block k hl fun e => by
    rcases ho.2 with ⟨rfl, _⟩ | ⟨r, cap, cur, rfl, hb, _⟩
    · cases e
    · simp [Value.ownBlock] at e; omega
theorem grown_two {w w' : World} {o1 o2 : Obj} {base e sz n : Nat} {v : Value} {xs : List Value} (hg : ((w.drew.alloc o1).alloc o2).grownBy w' v.ownBlock) (ho : w.ownsRow base e sz v n xs) (k : Nat) (hk : k < base) (hl : k < w.heap.size) : w'.heap[k]? = w.heap[k]? :=
  (grown_old hg ((ho.drew.alloc _).alloc _) hk (by simp; omega)).trans ((Below.heap_alloc _ _ k (by simp; omega)).trans (Below.heap_alloc w.drew _ k hl))
theorem new_step {w wr w1 : World} {k : Nat} {v : Value} {vals : List Value} (HO : wr.ownsRow (w.heap.size + 2) 35 1 v k vals) (HZ : Zeros wr (w.heap.size + 2) vals) (HB : Below w.heap.size w wr) (hsz : w.heap.size + 2 ≤ wr.heap.size)
    (hgrow : ((wr.drew.alloc (.cells z128.toArray 5)).alloc (.cells #[.slice (some ⟨wr.heap.size, 0, none⟩) 128 128] 35)).grownBy w1 v.ownBlock) (u : Value) :
    Zeros (w1.setCell ⟨w.heap.size + 1, 0, none⟩ u) (w.heap.size + 2) (vals ++ [.slice (some ⟨wr.heap.size, 0, none⟩) 128 128]) ∧ Below w.heap.size w (w1.setCell ⟨w.heap.size + 1, 0, none⟩ u) := by
  have ho2 := ((HO.drew).alloc (.cells z128.toArray 5)).alloc (.cells #[.slice (some ⟨wr.heap.size, 0, none⟩) 128 128] 35)
  constructor
  · have h1 : Zeros ((wr.drew.alloc (.cells z128.toArray 5)).alloc (.cells #[.slice (some ⟨wr.heap.size, 0, none⟩) 128 128] 35)) (w.heap.size + 2) vals :=
      HZ.keep fun g _ hl => (Below.heap_alloc _ _ g (by simp; omega)).trans (Below.heap_alloc wr.drew _ g hl)
    have h2 := h1.snoc (g := wr.heap.size) hsz ((Below.heap_alloc _ _ _ (by simp)).trans (heap_alloc_new wr.drew _))
    exact (h2.grown hgrow ho2).keep fun g hg _ => Below.heap_setCell _ _ _ _ (by simp; omega)
  · refine Below.setCell (Below.grown ((HB.drew.alloc (by simp; omega) _).alloc (by simp; omega) _) hgrow (by simp; omega) fun k e => ?_) (by simp) _
    rcases HO.2 with ⟨rfl, _⟩ | ⟨r, cap, cur, rfl, hb, _⟩
    · cases e
    · simp [Value.ownBlock] at e; omega
end Go.Proofs.Ytocjhepiooljpaa
