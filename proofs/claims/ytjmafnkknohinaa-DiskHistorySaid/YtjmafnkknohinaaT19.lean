import Derived.Test.YtjmafnkknohinaaT4
import Derived.Test.YtjmafnkknohinaaAux
import Derived.RangeFuncNested
import Derived.RangeFuncBound
import Derived.RangeFuncCalls
import Derived.RangeFuncLeaves
import Derived.RangeFuncBox
import Derived.Shelf.RegionOpen
import Derived.OwnWalkIn
import Derived.TacticsInMore
import Derived.LoopNIn
import Derived.LoopIn
namespace Go.Proofs.Ytjmafnkknohinaa
open Go.RowKit Go.Shelf

attribute [local go_sem] Oper.semAt_some

/-- the indices that have come, q are left -/
def came (len q : Nat) : List Nat := (List.range' q (len - q)).reverse
theorem came_start (len : Nat) : came len len = [] := by simp [came]
theorem came_succ {len r : Nat} (h : r < len) : came len r = came len (r + 1) ++ [r] := by
  unfold came
  rw [show len - r = (len - (r + 1)) + 1 by omega, List.range'_succ, List.reverse_cons]
theorem came_length {len q : Nat} : (came len q).length = len - q := by simp [came]
/-- what yield is told of element j -/
def encW (f : Nat → Nat → Value) (j : Nat) : Array Value := #[.int .i64 (j : Int), .agg #[f j 0, f j 1]]

set_option maxRecDepth 100000 in
set_option maxHeartbeats 2000000 in
theorem back1_in (F : Fence) (n : Nat) (h43 : F.fn 43) (hro : F.round = none) (hn : 1 ≤ n) (l Bs n₀ len cap : Nat) (A : Option Addr) (f : Nat → Nat → Value) (hreach : len ≤ 4096) (hBn : Bs < n₀) (J Jx : List Nat → World → Prop)
    (hY : ∀ pre x W, J pre W → pre.length < len → YieldAt F (n - 1) Try.prog l (encW f x) W fun e W' =>
      (e = .returned (.bool true) ∧ J (pre ++ [x]) W' ∧ Below n₀ W W') ∨ (e = .returned (.bool false) ∧ Jx (pre ++ [x]) W'))
    (W : World) (hBs : W.cell? ⟨Bs, 0, none⟩ = some (.slice A len cap)) (hc : Cells W (fun b => b < n₀) 2 A len f) (h0 : J [] W) :
    CallsIn F n Try.prog 43 #[.func (.yield l) #[] #[], .pointer (some ⟨Bs, 0, none⟩)] W fun e W' => (∃ v, e = .returned v) ∧
      ((∃ ys, ys = came len 0 ∧ J ys W') ∨ (∃ pre, (∃ q, q < len ∧ pre = came len q) ∧ Jx pre W')) := by
  refine callsIn_of_wp Try.func43 rfl h43 ?_ hro
  simp only [Try.ntmps43, List.size_toArray, List.length_cons, List.length_nil, Nat.reduceAdd, Nat.reduceSub, Array.replicate_succ, Array.replicate_zero, List.push_toArray, List.append_toArray, List.nil_append, List.cons_append]
  gi_wp2
  gi_loopw [3] (fun i wr => ∃ q : Nat, q ≤ len ∧ i = .int .i64 ((q : Int) - 1) ∧ J (came len q) wr ∧ Below n₀ W wr) (fun i _ => ((intOf i) + 1).toNat)
  case atStart => exact ⟨len, Nat.le_refl _, rfl, by rw [came_start]; exact h0, Below.refl _ _⟩
  case round =>
    obtain ⟨q, hq, he, hJs, hnx⟩ := hrel
    cases q with
    | zero =>
      subst he
      gi_wp2
      go_end0
      exact ⟨⟨_, rfl⟩, .inl ⟨_, rfl, hJs⟩⟩
    | succ r =>
      have he' : u3 = .int .i64 (r : Int) := by rw [he]; congr 1; omega
      clear he
      subst he'
      obtain ⟨b, off, rfl, hbn, hcs⟩ := hc (by omega)
      have hc0 := (hnx.cell (p := ⟨b, off + r * 2, none⟩) hbn).trans (hcs r 0 (by omega) (by omega))
      have hc1 := (hnx.cell (p := ⟨b, off + r * 2 + 1, none⟩) hbn).trans (hcs r 1 (by omega) (by omega))
      have hbs := (hnx.cell (p := ⟨Bs, 0, none⟩) hBn).trans hBs
      obtain ⟨fn, tmps, assign, body, hy, hR⟩ := hY _ r wr hJs (by rw [came_length]; omega)
      simp only [encW] at hy
      gi_wp2
      refine hR.mono ?_
      rintro e W3 (⟨rfl, hJ3, hk3⟩ | ⟨rfl, hJx3⟩)
      · gi_wp2
        go_roundw
        case rel => exact ⟨r, by omega, rfl, by rw [came_succ (by omega)]; exact hJ3, hnx.trans hk3⟩
        case measure => simp [intOf]
      · gi_wp2
        refine bodyPost_ret (results_none rfl _ _ _) rfl ?_
        exact ⟨⟨_, rfl⟩, .inr ⟨_, ⟨r, by omega, (came_succ (by omega)).symm⟩, hJx3⟩⟩

set_option maxHeartbeats 1000000 in
theorem back_in (F : Fence) (n : Nat) (h38 : F.fn 38) (hro : F.round = none) (a : Option Addr) (len cap : Nat) (w : World) :
    CallsIn F n Try.prog 38 #[.slice a len cap] w fun e w' => e = .returned (.func (.func 43) #[] #[.pointer (some ⟨w.heap.size, 0, none⟩)]) ∧ w' = w.alloc (.cells #[.slice a len cap] 23) := by
  refine callsIn_of_wp Try.func38 rfl h38 ?_ hro
  simp only [Try.ntmps38, List.size_toArray, List.length_cons, List.length_nil, Nat.reduceAdd, Nat.reduceSub, Array.replicate_succ, Array.replicate_zero, List.push_toArray, List.append_toArray, List.nil_append, List.cons_append]
  gi_wp2
  go_ret
  exact ⟨rfl, rfl⟩

theorem back_stops (F : Fence) (n : Nat) (h43 : F.fn 43) (hro : F.round = none) (hn : 1 ≤ n) (Bs n₀ len cap : Nat) (A : Option Addr) (f : Nat → Nat → Value) (hreach : len ≤ 4096) (hBn : Bs < n₀) (w : World) (hn₀ : n₀ ≤ w.heap.size)
    (hBs : w.cell? ⟨Bs, 0, none⟩ = some (.slice A len cap)) (hc : Cells w (fun b => b < n₀) 2 A len f) :
    SeqStopsK F n Try.prog 43 #[.pointer (some ⟨Bs, 0, none⟩)] (encW f) (Below n₀) (fun ys => ys = came len 0) (fun pre => ∃ q, q < len ∧ pre = came len q) len w := fun l J Jx W hW _ _ hY h0 =>
  back1_in F n h43 hro hn l Bs n₀ len cap A f hreach hBn J Jx hY W ((hW.cell (p := ⟨Bs, 0, none⟩) (by show Bs < _; omega)).trans hBs) (hc.keep fun p hp _ => hW.cell (by omega)) h0
end Go.Proofs.Ytjmafnkknohinaa
