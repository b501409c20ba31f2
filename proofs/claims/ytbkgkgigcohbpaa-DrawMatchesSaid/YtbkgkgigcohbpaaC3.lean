import Derived.Test.YtbkgkgigcohbpaaC2
import Derived.Test.YtbkgkgigcohbpaaMpK
import Derived.DeepKeys4
namespace Go.Proofs.Ytbkgkgigcohbpaa
open Go.RowKit

theorem Try.rowEdge : (47 : TypeId) < Try.prog.types.size := of_decide_eq_true (by kernel_rfl)
theorem Try.cellsEdge : Try.prog.cellsOf 47 = 2 := by kernel_rfl
theorem Try.cellsInt : Try.prog.cellsOf 3 = 1 := by kernel_rfl
theorem Try.wideEdge : (match Try.prog.underlying 47 with | some (.array _ _) | some (.struct _) => true | _ => false) = true := by rw [Try.underlying47]
theorem Try.keyedEdge : Go.Maps.Keyed Try.prog 47 := Go.Maps.Keyed.of_law (deep_law_laid (by kernel_rfl) (m := 2) (by omega) Try.rowEdge (by kernel_rfl) Try.wideEdge)
theorem Try.keyTypeEdge : Try.prog.keyType 47 = true := by kernel_rfl
/-- an edge as a key -/
def edV (f : Int × Int) : Value := .agg #[.int .i64 f.1, .int .i64 f.2]
theorem wf64 {x : Int} (h1 : -9223372036854775808 ≤ x) (h2 : x ≤ 9223372036854775807) : (Lit.int .i64 x).wf = true := by
  simp [Lit.wf, IntKind.min, IntKind.max, IntKind.signed, IntKind.bits]; omega
theorem lits_int (P : Program) {t : TypeId} {q : IntKind} (hu : P.underlying t = some (.int q)) (d : Nat) (x : Int) (h : (Lit.int q x).wf = true) : P.keyLits (d + 1) t [.int q x] = some [.int q x] := by
  simp only [Program.keyLits, hu, h, and_self, if_pos]
theorem lits_edge (d : Nat) (x y : Int) (h1 : (Lit.int .i64 x).wf = true) (h2 : (Lit.int .i64 y).wf = true) : Try.prog.keyLits (d + 1 + 1) 47 [.int .i64 x, .int .i64 y] = some [.int .i64 x, .int .i64 y] := by
  conv => lhs; unfold Program.keyLits
  rw [Try.underlying47]
  have e1 := lits_int Try.prog Try.underlying3 d x h1
  have e2 := lits_int Try.prog Try.underlying3 d y h2
  simp only [Try.cellsEdge, Try.cellsInt, List.length_cons, List.length_nil, List.mapM_cons, List.mapM_nil, List.drop_zero, List.drop_succ_cons, List.take_succ_cons, List.take_zero, e1, e2]
  rw [if_pos ⟨trivial, by kernel_rfl⟩]
  rfl
theorem key_edge (f : Int × Int) (h1 : (Lit.int .i64 f.1).wf = true) (h2 : (Lit.int .i64 f.2).wf = true) : ∃ l, keyOf Try.prog 47 (edV f) = some l := by
  obtain ⟨m, hm⟩ : ∃ m, Try.prog.types.size = m + 1 := ⟨Try.prog.types.size - 1, (Nat.succ_pred_eq_of_pos (Nat.lt_of_le_of_lt (Nat.zero_le _) Try.rowEdge)).symm⟩
  have hf : (Value.agg #[.int .i64 f.1, .int .i64 f.2]).formed Try.prog 47 = true := by
    unfold Value.formed
    rw [Try.underlying47, Try.cellsEdge]
    rfl
  have hl := lits_edge m f.1 f.2 h1 h2
  unfold keyOf edV
  rw [Try.underlying47]
  simp only [hf, Try.keyTypeEdge, hm, Bool.and_self, if_pos, Value.cells]
  rw [hl]
  exact ⟨_, rfl⟩
theorem edV_inj (x y : Int × Int) (h : edV x = edV y) : x = y := by
  unfold edV at h
  simp only [Value.agg.injEq, Array.mk.injEq, List.cons.injEq, Value.int.injEq, true_and, and_true] at h
  exact Prod.ext h.1 h.2
end Go.Proofs.Ytbkgkgigcohbpaa
