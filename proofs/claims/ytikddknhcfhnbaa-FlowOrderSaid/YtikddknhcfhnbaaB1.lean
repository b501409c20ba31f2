/- make of n pairs. -/
import Derived.Test.YtikddknhcfhnbaaA9
import Derived.Deep.OwnRows
namespace Go.Proofs.Ytikddknhcfhnbaa
open Go.RowKit
theorem Try.info_pair : (Try.prog.info? 65).map (fun i => (i.zero, i.size, i.bytes)) = some (some (.agg #[.int .i64 0, .int .i64 0]), 2, 16) := by kernel_rfl
theorem make_pairs (n : Nat) (hn : n ≤ 4096) (w : World) : (Instr.makeSlice 58 (.int .i64 n) (.int .i64 n)).run Try.prog w = .ok (.slice (some ⟨w.heap.size, 0, none⟩) n n) (w.alloc (.cells (madeCells #[.int .i64 0, .int .i64 0] (n * 2)) 65)) := by
  obtain ⟨i, hi, hz, hs, hb⟩ := info_parts Try.info_pair
  have hr := run_make (P := Try.prog) w 58 65 i _ Try.underlying58 hi hz .i64 .i64 n n (by omega) (Int.le_refl _) (by rw [hb]; omega) (by omega)
  simp only [Int.toNat_natCast, hs] at hr
  exact hr
end Go.Proofs.Ytikddknhcfhnbaa
