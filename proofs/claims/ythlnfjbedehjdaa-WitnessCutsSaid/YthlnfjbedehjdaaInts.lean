import Derived.Test.YthlnfjbedehjdaaGen
namespace Go.Proofs.Ythlnfjbedehjdaa
open Go.RowKit

def i64v (x : Int) : Value := .int .i64 x
/-- a slice of ints -/
def IsInts (w : World) (M : Nat → Prop) (v : Value) (xs : List Int) : Prop := IsSl w M 1 v xs.length (fun i _ => .int .i64 (xs.getD i 0))
/-- element j of ints -/
def nthI (xs : List Int) (j : Nat) : Int := xs.getD j 0
theorem nthI_get {xs : List Int} {q : Nat} (h : q < xs.length) : nthI xs q = xs[q] := by unfold nthI; rw [List.getD_eq_getElem?_getD, List.getElem?_eq_getElem h]; rfl
theorem IsInts.at_ {w wr : World} {M : Nat → Prop} {A : Option Addr} {n c k : Nat} {xs : List Int} (h : IsInts w M (.slice A n c) xs) (hb : Below w.heap.size w wr) (hk : k < xs.length) :
    ∃ b off, A = some ⟨b, off, none⟩ ∧ b < w.heap.size ∧ wr.cell? ⟨b, off + k, none⟩ = some (.int .i64 (nthI xs k)) := by
  obtain ⟨A', c', e, _, _, h3⟩ := h
  cases e
  obtain ⟨b, off, e, _, hl, hc⟩ := h3.at1 hb hk
  exact ⟨b, off, e, hl, hc⟩
/-- cell j of an edge -/
def edc (s : Int × Int) (j : Nat) : Value := i64v (if j = 0 then s.1 else s.2)
/-- a slice of pairs of ints -/
def IsEdges (w : World) (M : Nat → Prop) (v : Value) (xs : List (Int × Int)) : Prop := IsSl w M 2 v xs.length (fun i j => edc (xs.getD i (0, 0)) j)
theorem IsEdges.at_ {w wr : World} {M : Nat → Prop} {A : Option Addr} {n c k : Nat} {xs : List (Int × Int)} (h : IsEdges w M (.slice A n c) xs) (hb : Below w.heap.size w wr) (hk : k < xs.length) :
    ∃ b off, A = some ⟨b, off, none⟩ ∧ b < w.heap.size ∧ wr.cell? ⟨b, off + k * 2, none⟩ = some (.int .i64 xs[k].1) ∧ wr.cell? ⟨b, off + k * 2 + 1, none⟩ = some (.int .i64 xs[k].2) := by
  obtain ⟨A', c', e, _, _, h3⟩ := h
  cases e
  obtain ⟨b, off, e, _, hl, hc, hc1⟩ := h3.at2 hb hk
  refine ⟨b, off, e, hl, ?_, ?_⟩
  · rw [hc, List.getD_eq_getElem?_getD, List.getElem?_eq_getElem hk]; rfl
  · rw [hc1, List.getD_eq_getElem?_getD, List.getElem?_eq_getElem hk]; rfl
theorem IsInts.ofOwn {w : World} {base e : Nat} {v : Value} {xs : List Int} (h : w.ownsRow base e 1 v xs.length (xs.map i64v)) : IsInts w (fun b => base ≤ b) v xs :=
  (IsSl.ofOwn h (M := fun b => base ≤ b) fun _ hb => hb).congr fun i j hi hj => by
    obtain rfl : j = 0 := by omega
    rw [Nat.mul_one, Nat.add_zero, List.getD_eq_getElem?_getD, List.getElem?_map, List.getElem?_eq_getElem hi, List.getD_eq_getElem?_getD, List.getElem?_eq_getElem hi]
    rfl
theorem one_i64 (x : Int) : ∀ u ∈ [i64v x], u.oneCell' = true := by intro u hu; simp at hu; subst hu; rfl
/-- the first part of a slice of ints -/
theorem IsInts.take {w : World} {M : Nat → Prop} {A : Option Addr} {n c : Nat} {xs : List Int} (h : IsInts w M (.slice A n c) xs) (k : Nat) (hk : k ≤ xs.length) : IsInts w M (.slice A k c) (xs.take k) := by
  obtain ⟨A', c', e, h1, h2, h3⟩ := h
  cases e
  refine ⟨A, c, by rw [List.length_take, Nat.min_eq_left hk], by rw [List.length_take]; omega, h2, fun hn => ?_⟩
  rw [List.length_take, Nat.min_eq_left hk] at hn
  obtain ⟨b, off, e, hM, hc⟩ := h3 (by omega)
  refine ⟨b, off, e, hM, fun i j hi hj => ?_⟩
  rw [List.length_take, Nat.min_eq_left hk] at hi
  rw [hc i j (by omega) hj]
  simp [List.getD_eq_getElem?_getD, hi]
end Go.Proofs.Ythlnfjbedehjdaa
