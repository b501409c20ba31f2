/- push: an amount moved along an arc. -/
import Derived.Test.YtikddknhcfhnbaaA7
import Derived.Test.YtikddknhcfhnbaaZ1
namespace Go.Proofs.Ytikddknhcfhnbaa
open Go.RowKit
theorem frz_at {w : World} {g j : Nat} {cs : Array Value} {t : TypeId} (h : w.heap[g]? = some (.cells cs t (0, 0))) : w.frozen? ⟨g, j, none⟩ = false := by simp [World.frozen?, h]
set_option maxHeartbeats 1000000 in
theorem push_fo (w : World) {b lb m : Nat} {fo bk : Nat → Int} (hl : LeftW w b lb m fo bk) (hne : b ≠ lb) {cs : Array Value} {t : TypeId} (hb : w.heap[lb]? = some (.cells cs t (0, 0))) (i : Nat) (hi : i < m) (x : Int) (h1 : IntKind.i64.wrap (fo i - x) = fo i - x) (h2 : IntKind.i64.wrap (bk i + x) = bk i + x) :
    Calls Try.prog 30 #[.pointer (some ⟨b, 0, none⟩), .int .i64 (i : Int), .int .i64 x] w fun e w' => e = .returned (.tuple #[]) ∧ (w'.os = w.os ∧ w'.tape = w.tape ∧ w'.output = w.output) ∧ w'.heap = ((w.setCell ⟨lb, i * 2, none⟩ (.int .i64 (fo i - x))).setCell ⟨lb, i * 2 + 1, none⟩ (.int .i64 (bk i + x))).heap := by
  have l0 := hl.at_
  have l1 := hl.fo i hi
  have l2 := hl.bk i hi
  have hi0 : (0 : Int) ≤ (i : Int) := by omega
  have hi1 : (i : Int) < (m : Int) := by omega
  obtain ⟨p, hp⟩ : ∃ p, p = fo i := ⟨_, rfl⟩
  obtain ⟨q, hq⟩ : ∃ q, q = bk i := ⟨_, rfl⟩
  rw [← hp] at l1 h1 ⊢
  rw [← hq] at l2 h2 ⊢
  have hf1 : w.frozen? ⟨lb, i * 2, none⟩ = false := frz_at hb
  have hf2 : w.frozen? ⟨lb, i * 2 + 1, none⟩ = false := frz_at hb
  clear hl hp hq hb hi
  go_enter Try.func30, Try.ntmps30
  go_wp2_with fail
  exact bodyPost_ret (results_none rfl _ _ _) rfl ⟨rfl, ⟨rfl, rfl, rfl⟩, rfl⟩
end Go.Proofs.Ytikddknhcfhnbaa
