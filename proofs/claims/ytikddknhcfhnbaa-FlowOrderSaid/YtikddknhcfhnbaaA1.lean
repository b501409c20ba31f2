/- Networks in memory; Check of package flow. -/
import Derived.Test.YtikddknhcfhnbaaZ1
namespace Go.Proofs.Ytikddknhcfhnbaa
open Go.RowKit
/-- cell j of an arc -/
def arcc (a : ArcD) (j : Nat) : Value := i64v (if j = 0 then a.src else if j = 1 then a.dst else a.cap)
/-- a slice of arcs -/
def IsArcs (w : World) (M : Nat → Prop) (v : Value) (xs : List ArcD) : Prop := IsSl w M 3 v xs.length (fun i j => arcc (nthA xs i) j)
theorem IsArcs.at_ {w wr : World} {M : Nat → Prop} {A : Option Addr} {n c k : Nat} {xs : List ArcD} (h : IsArcs w M (.slice A n c) xs) (hb : Below w.heap.size w wr) (hk : k < xs.length) :
    ∃ b off, A = some ⟨b, off, none⟩ ∧ b < w.heap.size ∧ wr.cell? ⟨b, off + k * 3, none⟩ = some (.int .i64 (nthA xs k).src) ∧ wr.cell? ⟨b, off + k * 3 + 1, none⟩ = some (.int .i64 (nthA xs k).dst) ∧ wr.cell? ⟨b, off + k * 3 + 2, none⟩ = some (.int .i64 (nthA xs k).cap) := by
  obtain ⟨A', c', e, _, _, h3⟩ := h
  cases e
  obtain ⟨b, off, e, _, hc⟩ := h3 (by omega)
  have h0 := hc k 0 hk (by omega)
  have h1 := hc k 1 hk (by omega)
  have h2 := hc k 2 hk (by omega)
  have hl : b < w.heap.size := lt_of_cell h0
  rw [Nat.add_zero] at h0
  exact ⟨b, off, e, hl, (hb.cell (p := ⟨b, _, none⟩) hl).trans h0, (hb.cell (p := ⟨b, _, none⟩) hl).trans h1, (hb.cell (p := ⟨b, _, none⟩) hl).trans h2⟩
/-- a network in memory -/
def IsNet (w : World) (M : Nat → Prop) (v : Value) (n : NetD) : Prop := ∃ v2, v = .agg #[.int .i64 n.vs, v2] ∧ IsArcs w M v2 n.arcs
theorem IsNet.below {w w' : World} {M : Nat → Prop} {v : Value} {n : NetD} (h : IsNet w M v n) (hb : Below w.heap.size w w') : IsNet w' M v n := by
  obtain ⟨v2, e, h⟩ := h; exact ⟨v2, e, IsSl.below h hb⟩
def RetE (z : Int) (w : World) (e : Ending) (w' : World) : Prop := e = .returned (.int .i64 z) ∧ Below w.heap.size w w'
end Go.Proofs.Ytikddknhcfhnbaa
