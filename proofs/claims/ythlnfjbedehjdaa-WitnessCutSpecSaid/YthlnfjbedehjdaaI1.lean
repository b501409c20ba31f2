/- IndexFunc and ContainsFunc at edges and ints. -/
import Derived.Test.YthlnfjbedehjdaaS1
import Derived.Shelf.Abstract
namespace Go.Proofs.Ythlnfjbedehjdaa
open Go.RowKit Go.Shelf

/-- the predicate g with what it has captured answers p at each element -/
def Pred2 (P : Program) (w : World) (g : FuncId) (cap : Array Value) (n : Nat) (f : Nat → Nat → Value) (p : Nat → Bool) : Prop :=
  ∀ i, i < n → ∀ wr, Below w.heap.size w wr → Calls P g (#[.agg #[f i 0, f i 1]] ++ cap) wr fun e w' => e = .returned (.bool (p i)) ∧ Below wr.heap.size wr w'
def Pred1 (P : Program) (w : World) (g : FuncId) (cap : Array Value) (n : Nat) (f : Nat → Nat → Value) (p : Nat → Bool) : Prop :=
  ∀ i, i < n → ∀ wr, Below w.heap.size w wr → Calls P g (#[f i 0] ++ cap) wr fun e w' => e = .returned (.bool (p i)) ∧ Below wr.heap.size wr w'

set_option maxHeartbeats 400000 in
theorem indexFunc2_any (w : World) (M : Nat → Prop) (A : Option Addr) (n c : Nat) (f : Nat → Nat → Value) (hn : n ≤ 140737488355328) (hc : Cells w M 2 A n f) (g : FuncId) (cap : Array Value) (p : Nat → Bool) (hg : Enters Try.prog g) (hp : Pred2 Try.prog w g cap n f p) :
    Calls Try.prog 78 #[.slice A n c, .func (.func g) #[] cap] w fun e w' => e = .returned (.int .i64 (idxF p n)) ∧ Below w.heap.size w w' := by
  go_enter Try.func78, Try.ntmps78
  go_wp2
  go_loopw [8] (fun i wr => ∃ k : Nat, k ≤ n ∧ i = .int .i64 k ∧ noneTo p k ∧ Below w.heap.size w wr) (fun i _ => n - (intOf i).toNat)
  case atStart => exact ⟨0, Nat.zero_le _, rfl, fun j hj => absurd hj (by omega), Below.refl _ _⟩
  case round =>
    obtain ⟨k, hk, rfl, hno, hbel⟩ := hrel
    by_cases hlt : k < n
    · obtain ⟨b, off, rfl, _, hbl, hck, hck1⟩ := hc.at2 hbel hlt
      have hg' := fun args => hg args wr
      have HP := hp k hlt wr hbel
      have HP' := Lib.hid HP
      clear HP hg
      go_wp2_with fail
      refine HP'.out.mono ?_
      rintro e w1 ⟨rfl, hb1⟩
      by_cases hpk : p k = true
      · rw [hpk]
        go_wp2_with fail
        go_ret
        exact ⟨ret_int (idxF_some hlt hpk hno).symm, hbel.trans (hb1.mono hbel.size)⟩
      · have hpf : p k = false := by simpa using hpk
        rw [hpf]
        have HN := Lib.hid (noneTo_succ hno hpf)
        clear hpf hpk
        go_wp2_with fail
        go_roundw
        case rel => exact ⟨k + 1, by omega, by go_num, HN.out, hbel.trans (hb1.mono hbel.size)⟩
        case measure => simp [intOf]; omega
    · go_wp2
      go_ret
      obtain rfl : k = n := by omega
      exact ⟨ret_int (idxF_none hno).symm, hbel⟩

set_option maxHeartbeats 400000 in
theorem containsFunc2_any (w : World) (M : Nat → Prop) (A : Option Addr) (n c : Nat) (f : Nat → Nat → Value) (hn : n ≤ 140737488355328) (hc : Cells w M 2 A n f) (g : FuncId) (cap : Array Value) (p : Nat → Bool) (hg : Enters Try.prog g) (hp : Pred2 Try.prog w g cap n f p) :
    Calls Try.prog 48 #[.slice A n c, .func (.func g) #[] cap] w fun e w' => e = .returned (.bool ((List.range n).any p)) ∧ Below w.heap.size w w' := by
  have H := Lib.hid (indexFunc2_any w M A n c f hn hc g cap p hg hp)
  clear hg hp
  go_enter Try.func48, Try.ntmps48
  go_wp2_with fail
  refine H.out.mono ?_
  rintro e w1 ⟨rfl, hb1⟩
  go_wp2_with fail
  go_ret
  exact ⟨ret_bool (idxF_any p n), hb1⟩
set_option maxHeartbeats 400000 in
theorem indexFunc1_any (w : World) (M : Nat → Prop) (A : Option Addr) (n c : Nat) (f : Nat → Nat → Value) (hn : n ≤ 140737488355328) (hc : Cells w M 1 A n f) (hsl : ∀ i, i < n → ∃ x : Int, f i 0 = .int .i64 x) (g : FuncId) (cap : Array Value) (p : Nat → Bool) (hg : Enters Try.prog g) (hp : Pred1 Try.prog w g cap n f p) :
    Calls Try.prog 77 #[.slice A n c, .func (.func g) #[] cap] w fun e w' => e = .returned (.int .i64 (idxF p n)) ∧ Below w.heap.size w w' := by
  go_enter Try.func77, Try.ntmps77
  go_wp2
  go_loopw [8] (fun i wr => ∃ k : Nat, k ≤ n ∧ i = .int .i64 k ∧ noneTo p k ∧ Below w.heap.size w wr) (fun i _ => n - (intOf i).toNat)
  case atStart => exact ⟨0, Nat.zero_le _, rfl, fun j hj => absurd hj (by omega), Below.refl _ _⟩
  case round =>
    obtain ⟨k, hk, rfl, hno, hbel⟩ := hrel
    by_cases hlt : k < n
    · obtain ⟨b, off, rfl, _, hbl, hck⟩ := hc.at1 hbel hlt
      have hg' := fun args => hg args wr
      have HP := hp k hlt wr hbel
      obtain ⟨x', hfk⟩ := hsl k hlt
      rw [hfk] at HP hck
      have HP' := Lib.hid HP
      clear HP hg hfk
      go_wp2_with fail
      refine HP'.out.mono ?_
      rintro e w1 ⟨rfl, hb1⟩
      by_cases hpk : p k = true
      · rw [hpk]
        go_wp2_with fail
        go_ret
        exact ⟨ret_int (idxF_some hlt hpk hno).symm, hbel.trans (hb1.mono hbel.size)⟩
      · have hpf : p k = false := by simpa using hpk
        rw [hpf]
        have HN := Lib.hid (noneTo_succ hno hpf)
        clear hpf hpk
        go_wp2_with fail
        go_roundw
        case rel => exact ⟨k + 1, by omega, by go_num, HN.out, hbel.trans (hb1.mono hbel.size)⟩
        case measure => simp [intOf]; omega
    · go_wp2
      go_ret
      obtain rfl : k = n := by omega
      exact ⟨ret_int (idxF_none hno).symm, hbel⟩
set_option maxHeartbeats 400000 in
theorem containsFunc1_any (w : World) (M : Nat → Prop) (A : Option Addr) (n c : Nat) (f : Nat → Nat → Value) (hn : n ≤ 140737488355328) (hc : Cells w M 1 A n f) (hsl : ∀ i, i < n → ∃ x : Int, f i 0 = .int .i64 x) (g : FuncId) (cap : Array Value) (p : Nat → Bool) (hg : Enters Try.prog g) (hp : Pred1 Try.prog w g cap n f p) :
    Calls Try.prog 44 #[.slice A n c, .func (.func g) #[] cap] w fun e w' => e = .returned (.bool ((List.range n).any p)) ∧ Below w.heap.size w w' := by
  have H := Lib.hid (indexFunc1_any w M A n c f hn hc hsl g cap p hg hp)
  clear hg hp hsl
  go_enter Try.func44, Try.ntmps44
  go_wp2_with fail
  refine H.out.mono ?_
  rintro e w1 ⟨rfl, hb1⟩
  go_wp2_with fail
  go_ret
  exact ⟨ret_bool (idxF_any p n), hb1⟩
end Go.Proofs.Ythlnfjbedehjdaa
