/- Parts of a slice of arcs. -/
import Derived.Test.YtikddknhcfhnbaaN1
namespace Go.Proofs.Ytikddknhcfhnbaa
open Go.RowKit Go.Deep
theorem nthA_take {l : List ArcD} {k i : Nat} (h : i < k) : nthA (l.take k) i = nthA l i := by
  unfold nthA
  rw [List.getD_eq_getElem?_getD, List.getD_eq_getElem?_getD, List.getElem?_take_of_lt h]
theorem nthA_drop {l : List ArcD} {k i : Nat} : nthA (l.drop k) i = nthA l (k + i) := by
  unfold nthA
  rw [List.getD_eq_getElem?_getD, List.getD_eq_getElem?_getD, List.getElem?_drop]
theorem arcs_take {w : World} {M : Nat → Prop} {A : Option Addr} {n c : Nat} {l : List ArcD} (h : IsArcs w M (.slice A n c) l) {k : Nat} (hk : k ≤ l.length) : IsArcs w M (.slice A k c) (l.take k) := by
  obtain ⟨A', c', e, h1, h2, h3⟩ := h
  cases e
  refine ⟨A, c, by rw [List.length_take, Nat.min_eq_left hk], by rw [List.length_take]; omega, h2, fun hn => ?_⟩
  rw [List.length_take, Nat.min_eq_left hk] at hn
  obtain ⟨b, off, e, hM, hc⟩ := h3 (by omega)
  refine ⟨b, off, e, hM, fun i j hi hj => ?_⟩
  rw [List.length_take, Nat.min_eq_left hk] at hi
  rw [hc i j (by omega) hj]
  dsimp only
  rw [nthA_take hi]
theorem arcs_drop {w : World} {M : Nat → Prop} {b off n c c' lo : Nat} {l : List ArcD} (h : IsArcs w M (.slice (some ⟨b, off, none⟩) n c) l) (hk : lo ≤ l.length) (hc : l.length - lo ≤ c') (hc2 : c' ≤ 9223372036854775807) : IsArcs w M (.slice (some ⟨b, off + lo * 3, none⟩) (l.length - lo) c') (l.drop lo) := by
  obtain ⟨A', c1, e, h1, h2, h3⟩ := h
  cases e
  refine ⟨_, c', by rw [List.length_drop], by rw [List.length_drop]; exact hc, hc2, fun hn => ?_⟩
  rw [List.length_drop] at hn
  obtain ⟨b', off', e, hM, hcc⟩ := h3 (by omega)
  cases e
  refine ⟨b, _, rfl, hM, fun i j hi hj => ?_⟩
  rw [List.length_drop] at hi
  have := hcc (lo + i) j (by omega) hj
  rw [show off + lo * 3 + i * 3 + j = off + (lo + i) * 3 + j by omega, this]
  dsimp only
  rw [nthA_drop]
/-- two boxes of one arc each, apart, made since w0 -/
def Two (w0 w : World) (b1 b2 : Nat) (a1 a2 : ArcD) : Prop := w.heap[b1]? = some (.cells #[.int .i64 a1.src, .int .i64 a1.dst, .int .i64 a1.cap] 45 (0, 0)) ∧ w.heap[b2]? = some (.cells #[.int .i64 a2.src, .int .i64 a2.dst, .int .i64 a2.cap] 45 (0, 0)) ∧ b1 ≠ b2 ∧ w0.heap.size ≤ b1 ∧ w0.heap.size ≤ b2
end Go.Proofs.Ytikddknhcfhnbaa
