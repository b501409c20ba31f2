import Derived.Test.YtjmafnkknohinaaMem
namespace Go.Proofs.Ytjmafnkknohinaa
open Go.RowKit

/-- give the world at a call a name -/
theorem nameW {P : Program} {f : FuncId} {args : Array Value} {w : World} {R : Ending → World → Prop} (h : ∀ W, Hid (W = w) → Calls P f args W R) : Calls P f args w R := h w rfl
theorem nameG {p : World → Prop} {w : World} (h : ∀ W, Hid (W = w) → p W) : p w := h w rfl
theorem cell_of {w : World} {g j : Nat} {cs : Array Value} {t : TypeId} {z : Nat × Nat} {v : Value} (h : w.heap[g]? = some (.cells cs t z)) (hv : cs[j]? = some v) : w.cell? ⟨g, j, none⟩ = some v := by simp [World.cell?, h, hv]
theorem heap_alloc_if (w : World) (o : Obj) (k : Nat) : (w.alloc o).heap[k]? = if k = w.heap.size then some o else w.heap[k]? := by
  show (w.heap.push o)[k]? = _
  rw [Array.getElem?_push]
theorem heap_set_if (w : World) (b j k : Nat) (u : Value) : (w.setCell ⟨b, j, none⟩ u).heap[k]? = if k = b then (w.heap[k]?).map (fun o => match o with | .cells cs t z => .cells (cs.setIfInBounds j u) t z | o => o) else w.heap[k]? := by
  simp only [World.setCell, Array.getElem?_modify]
  by_cases h : b = k
  · subst h
    simp
    rfl
  · rw [if_neg h, if_neg (fun e => h e.symm)]
end Go.Proofs.Ytjmafnkknohinaa
