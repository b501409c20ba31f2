/- step: where an arc leads. -/
import Derived.Test.YtikddknhcfhnbaaA6
namespace Go.Proofs.Ytikddknhcfhnbaa
open Go.RowKit
/-- the pairs of what is left -/
structure LeftW (w : World) (b lb m : Nat) (fo bk : Nat → Int) : Prop where
  at_ : w.cell? ⟨b, 512, none⟩ = some (.slice (some ⟨lb, 0, none⟩) m m)
  fo : ∀ i, i < m → w.cell? ⟨lb, i * 2, none⟩ = some (.int .i64 (fo i))
  bk : ∀ i, i < m → w.cell? ⟨lb, i * 2 + 1, none⟩ = some (.int .i64 (bk i))
set_option maxHeartbeats 1000000 in
theorem step_fo (w : World) (M : Nat → Prop) (v : Value) (n : NetD) (h : IsNet w M v n) {b lb : Nat} {fo bk : Nat → Int} (hl : LeftW w b lb n.arcs.length fo bk) (i : Nat) (hi : i < n.arcs.length) :
    Calls Try.prog 29 #[.pointer (some ⟨b, 0, none⟩), v, .int .i64 (i : Int)] w (PairE w ((nthA n.arcs i).dst, fo i)) := by
  obtain ⟨va, rfl, h3⟩ := h
  have HA := Lib.hid h3
  obtain ⟨A, c, rfl, -⟩ := h3
  obtain ⟨ba, off, rfl, hb, e0, e1, e2⟩ := HA.out.at_ (Below.refl _ _) hi
  have l0 := hl.at_
  have l1 := hl.fo i hi
  have hi0 : (0 : Int) ≤ (i : Int) := by omega
  have hi1 : (i : Int) < (n.arcs.length : Int) := by omega
  obtain ⟨y, hy⟩ : ∃ y, y = (nthA n.arcs i).dst := ⟨_, rfl⟩
  obtain ⟨u, hu⟩ : ∃ u, u = fo i := ⟨_, rfl⟩
  rw [← hy] at e1 ⊢
  rw [← hu] at l1 ⊢
  have hbl := lt_of_cell l0
  have hll := lt_of_cell l1
  clear hl hy hu e0 e2 hi
  go_enter Try.func29, Try.ntmps29
  go_wp2_with fail
  go_quiet (fail)
  go_wp2_with fail
  go_ret2
  exact ⟨rfl, below_drewN ((Below.refl _ _).alloc (Nat.le_refl _) _) _⟩
set_option maxHeartbeats 1000000 in
theorem step_bk (w : World) (M : Nat → Prop) (v : Value) (n : NetD) (h : IsNet w M v n) {b lb : Nat} {fo bk : Nat → Int} (hl : LeftW w b lb n.arcs.length fo bk) (i : Nat) (hi : i < n.arcs.length) (hm : n.arcs.length ≤ 4096) :
    Calls Try.prog 29 #[.pointer (some ⟨b, 0, none⟩), v, .int .i64 (-1 - (i : Int))] w (PairE w ((nthA n.arcs i).src, bk i)) := by
  obtain ⟨va, rfl, h3⟩ := h
  have HA := Lib.hid h3
  obtain ⟨A, c, rfl, -⟩ := h3
  obtain ⟨ba, off, rfl, hb, e0, e1, e2⟩ := HA.out.at_ (Below.refl _ _) hi
  have l0 := hl.at_
  have l1 := hl.bk i hi
  have hi0 : (0 : Int) ≤ (i : Int) := by omega
  have hn0 : ¬ (0 : Int) ≤ -1 - (i : Int) := by omega
  have hw : IntKind.i64.wrap (-1 - (-1 - (i : Int))) = (i : Int) := by
    rw [show (-1 : Int) - (-1 - (i : Int)) = (i : Int) by omega]; exact IntWalk.i64_in _ (by omega)
  have hi1 : (i : Int) < (n.arcs.length : Int) := by omega
  obtain ⟨y, hy⟩ : ∃ y, y = (nthA n.arcs i).src := ⟨_, rfl⟩
  obtain ⟨u, hu⟩ : ∃ u, u = bk i := ⟨_, rfl⟩
  rw [← hy] at e0 ⊢
  rw [← hu] at l1 ⊢
  have hbl := lt_of_cell l0
  have hll := lt_of_cell l1
  clear hl hy hu e1 e2 hi hm
  go_enter Try.func29, Try.ntmps29
  go_wp2_with fail
  go_quiet (fail)
  go_wp2_with fail
  go_ret2
  exact ⟨rfl, below_drewN ((Below.refl _ _).alloc (Nat.le_refl _) _) _⟩
end Go.Proofs.Ytikddknhcfhnbaa
