/- Append onto an own row: small facts, for any seat. -/
import Derived.Test.YthlnfjbedehjdaaGen
import Derived.OwnWalk
namespace Go.Proofs.Ythlnfjbedehjdaa
open Go.RowKit
theorem cell_one_new (w : World) (a : Value) (t : TypeId) : ∀ j u, [a][j]? = some u → (w.alloc (.cells #[a] t)).cell? ((⟨w.heap.size, 0, none⟩ : Addr).add j) = some u := by
  intro j u hj
  have hl : (w.alloc (.cells #[a] t)).heap[w.heap.size]? = some (.cells #[a] t (0, 0)) := by rw [heap_alloc_if, if_pos rfl]
  rw [addr_add, Nat.zero_add]
  refine cell_of hl ?_
  have : j = 0 := by have := (List.getElem?_eq_some_iff.1 hj).1; simp at this; omega
  subst this
  simpa using hj
theorem own_base {w : World} {base e sz n : Nat} {v : Value} {xs : List Value} (h : w.ownsRow base e sz v n xs) : ∀ g, v.ownBlock = some g → base ≤ g := by
  intro g hg
  rcases h.2 with ⟨rfl, _⟩ | ⟨b, cap, cur, rfl, hb, _⟩
  · simp [Value.ownBlock] at hg
  · simp [Value.ownBlock] at hg; omega
theorem own_nil (w : World) (base e sz : Nat) : w.ownsRow base e sz (.slice none 0 0) 0 [] := ⟨by simp, .inl ⟨rfl, rfl⟩⟩
end Go.Proofs.Ythlnfjbedehjdaa
