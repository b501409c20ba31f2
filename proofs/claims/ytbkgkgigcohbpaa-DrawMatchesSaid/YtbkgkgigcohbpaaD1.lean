import Derived.Test.YtbkgkgigcohbpaaC4
import Derived.BigQuiet
namespace Go.Proofs.Ytbkgkgigcohbpaa
open Go.RowKit

/-- the closure's cells in memory: bn holds the map of what is forbidden, bd the draw -/
def MayW (w : World) (M : Nat → Prop) (bn bd : Nat) (d : DrawD) : Prop := ∃ bm c v1 v2 v3,
  w.heap[bn]? = some (.cells #[.map (some bm)] 68 (0, 0)) ∧ w.heap[bd]? = some (.cells #[v1, v2, v3] 25 (0, 0)) ∧
  IsInts w M v1 d.first ∧ IsInts w M v2 d.second ∧ SetK edV Try.prog 47 4 w bm c (fun f => d.forb.contains f)
theorem Try.zeroBool (w : World) : (zeroValue 4).run Try.prog w = .ok (.bool false) w := by kernel_rfl
theorem MayW.below {w w' : World} {M : Nat → Prop} {bn bd : Nat} {d : DrawD} (h : MayW w M bn bd d) (hb : Below w.heap.size w w') : MayW w' M bn bd d := by
  obtain ⟨bm, c, v1, v2, v3, h1, h2, h3, h4, h5⟩ := h
  have g1 : bn < w.heap.size := (Array.getElem?_eq_some_iff.1 h1).1
  have g2 : bd < w.heap.size := (Array.getElem?_eq_some_iff.1 h2).1
  exact ⟨bm, c, v1, v2, v3, (hb.block bn g1).trans h1, (hb.block bd g2).trans h2, IsSl.below h3 hb, IsSl.below h4 hb, h5.below hb (Nat.le_refl _)⟩
theorem pot_range {l : List Int} (h : potB l = true) {i : Nat} (hi : i < l.length) : 0 ≤ nthI l i ∧ nthI l i < 192 := by
  unfold potB at h
  simp only [Bool.and_eq_true, List.all_eq_true, List.mem_range] at h
  have := h.1 i hi
  unfold okAt at this
  simp only [Bool.and_eq_true, decide_eq_true_eq] at this
  exact ⟨this.1, this.2.1⟩
theorem may_any (w : World) (M : Nat → Prop) (bn bd : Nat) (d : DrawD) (h : MayW w M bn bd d) (h1 : potB d.first = true) (h2 : potB d.second = true) (i k : Nat) (hi : i < d.first.length) (hk : k < d.second.length) :
    Calls Try.prog 37 #[.int .i64 i, .int .i64 k, .pointer (some ⟨bn, 0, none⟩), .pointer (some ⟨bd, 0, none⟩)] w fun e w' => e = .returned (.bool (mayD d i k)) ∧ ∃ n, w' = w.drewN n := by
  obtain ⟨bm, c, v1, v2, v3, k1, k2, hi1, hi2, hs⟩ := h
  have H1 := Lib.hid hi1
  have H2 := Lib.hid hi2
  obtain ⟨A1, c1, rfl, hl1, -, -⟩ := hi1
  obtain ⟨A2, c2, rfl, hl2, -, -⟩ := hi2
  obtain ⟨b1, o1, rfl, -, e1⟩ := H1.out.at_ (Below.refl _ _) hi
  obtain ⟨b2, o2, rfl, -, e2⟩ := H2.out.at_ (Below.refl _ _) hk
  have r1 := pot_range h1 hi
  have r2 := pot_range h2 hk
  have HM : Hid (mayD d i k = !d.forb.contains (nthI d.first i, nthI d.second k)) := rfl
  generalize nthI d.first i = x at e1 r1 HM
  generalize nthI d.second k = y at e2 r2 HM
  obtain ⟨l, hl⟩ := key_edge (x, y) (wf64 (by omega) (by omega)) (wf64 (by omega) (by omega))
  have hlook : ∀ n, (Instr.lookup 68 (.map (some bm)) (.agg #[.int .i64 x, .int .i64 y]) false).run Try.prog (w.drewN n) = .ok (.bool (d.forb.contains (x, y))) (w.drewN n) := fun n =>
    (hs.drewN n).look Try.keyedEdge Try.underlying68 Try.underlying4 (Try.zeroBool _) hl
  have hlook0 := hlook 0
  have hn0 := cell_of (j := 0) k1 rfl
  have hd0 := cell_of (j := 0) k2 rfl
  have hd1 := cell_of (j := 1) k2 rfl
  generalize d.forb.contains (x, y) = z at hlook hlook0 HM
  have hii : (i : Int) < (d.first.length : Int) := by omega
  have hkk : (k : Int) < (d.second.length : Int) := by omega
  have hi0 : (0 : Int) ≤ (i : Int) := by omega
  have hk0 : (0 : Int) ≤ (k : Int) := by omega
  clear k1 k2 hs H1 H2
  go_enter Try.func37, Try.ntmps37
  go_wp2_with fail
  go_quiet (fail)
  go_wp2_with fail
  go_ret
  exact ⟨ret_bool HM.out.symm, _, rfl⟩
end Go.Proofs.Ytbkgkgigcohbpaa
