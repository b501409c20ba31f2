import Derived.Test.YtpcodholllaceaaGen
import Derived.Shelf.Abstract
namespace Go.Proofs.Ytpcodholllaceaa
open Go.RowKit Go.Shelf

def idxF (p : Nat → Bool) (n : Nat) : Int := match (List.range n).find? p with | some i => i | none => -1
theorem idxF_none {p : Nat → Bool} {n : Nat} (h : ∀ j, j < n → p j = false) : idxF p n = -1 := by
  have : (List.range n).find? p = none := by rw [List.find?_eq_none]; intro x hx; simp [h x (List.mem_range.1 hx)]
  simp [idxF, this]
theorem idxF_some {p : Nat → Bool} {n k : Nat} (hk : k < n) (hp : p k = true) (h : ∀ j, j < k → p j = false) : idxF p n = k := by
  have : (List.range n).find? p = some k := by
    rw [List.find?_range_eq_some]; exact ⟨hp, by simpa using hk, fun j hj => by simp [h j hj]⟩
  simp [idxF, this]
theorem idxF_any (p : Nat → Bool) (n : Nat) : decide (0 ≤ idxF p n) = (List.range n).any p := by
  unfold idxF
  cases h : (List.range n).find? p with
  | none => 
    rw [List.find?_eq_none] at h
    have : (List.range n).any p = false := by rw [List.any_eq_false]; exact h
    simp [this]
  | some i =>
    have := List.find?_some h
    have hm := List.mem_of_find?_eq_some h
    have : (List.range n).any p = true := by rw [List.any_eq_true]; exact ⟨i, hm, this⟩
    simp [this]
def noneTo (p : Nat → Bool) (k : Nat) : Prop := ∀ j, j < k → p j = false
theorem noneTo_succ {p : Nat → Bool} {k : Nat} (h : noneTo p k) (hp : p k = false) : noneTo p (k + 1) := fun j hj => by
  rcases Nat.lt_or_ge j k with h1 | h1
  · exact h j h1
  · obtain rfl : j = k := by omega
    exact hp
/-- the predicate g with what it has captured answers p at each element -/
def Pred2 (P : Program) (w : World) (g : FuncId) (cap : Array Value) (n : Nat) (f : Nat → Nat → Value) (p : Nat → Bool) : Prop :=
  ∀ i, i < n → ∀ wr, Below w.heap.size w wr → Calls P g (#[.agg #[f i 0, f i 1]] ++ cap) wr fun e w' => e = .returned (.bool (p i)) ∧ Below wr.heap.size wr w'
def Pred1 (P : Program) (w : World) (g : FuncId) (cap : Array Value) (n : Nat) (f : Nat → Nat → Value) (p : Nat → Bool) : Prop :=
  ∀ i, i < n → ∀ wr, Below w.heap.size w wr → Calls P g (#[f i 0] ++ cap) wr fun e w' => e = .returned (.bool (p i)) ∧ Below wr.heap.size wr w'

set_option maxHeartbeats 400000 in
theorem indexFunc2_any (w : World) (M : Nat → Prop) (A : Option Addr) (n c : Nat) (f : Nat → Nat → Value) (hn : n ≤ 140737488355328) (hc : Cells w M 2 A n f) (g : FuncId) (cap : Array Value) (p : Nat → Bool) (hg : Enters Try.prog g) (hp : Pred2 Try.prog w g cap n f p) :
    Calls Try.prog 56 #[.slice A n c, .func (.func g) #[] cap] w fun e w' => e = .returned (.int .i64 (idxF p n)) ∧ Below w.heap.size w w' := by
  go_enter Try.func56, Try.ntmps56
  go_wp2
  go_loopw [8] (fun i wr => ∃ k : Nat, k ≤ n ∧ i = .int .i64 k ∧ noneTo p k ∧ Below w.heap.size w wr) (fun i _ => n - (intOf i).toNat)
  case atStart => exact ⟨0, Nat.zero_le _, rfl, fun j hj => absurd hj (by omega), Below.refl _ _⟩
  case round =>
    obtain ⟨k, hk, rfl, hno, hbel⟩ := hrel
    by_cases hlt : k < n
    · obtain ⟨b, off, rfl, _, hbl, hck, hck1⟩ := hc.at2 hbel hlt
      have hg' := fun args => hg args wr
      have HP := hp k hlt wr hbel
      have HP' := Lib.hid HP
      clear HP hg
      go_wp2_with fail
      refine HP'.out.mono ?_
      rintro e w1 ⟨rfl, hb1⟩
      by_cases hpk : p k = true
      · rw [hpk]
        go_wp2_with fail
        go_ret
        exact ⟨ret_int (idxF_some hlt hpk hno).symm, hbel.trans (hb1.mono hbel.size)⟩
      · have hpf : p k = false := by simpa using hpk
        rw [hpf]
        have HN := Lib.hid (noneTo_succ hno hpf)
        clear hpf hpk
        go_wp2_with fail
        go_roundw
        case rel => exact ⟨k + 1, by omega, by go_num, HN.out, hbel.trans (hb1.mono hbel.size)⟩
        case measure => simp [intOf]; omega
    · go_wp2
      go_ret
      obtain rfl : k = n := by omega
      exact ⟨ret_int (idxF_none hno).symm, hbel⟩

set_option maxHeartbeats 400000 in
theorem containsFunc2_any (w : World) (M : Nat → Prop) (A : Option Addr) (n c : Nat) (f : Nat → Nat → Value) (hn : n ≤ 140737488355328) (hc : Cells w M 2 A n f) (g : FuncId) (cap : Array Value) (p : Nat → Bool) (hg : Enters Try.prog g) (hp : Pred2 Try.prog w g cap n f p) :
    Calls Try.prog 43 #[.slice A n c, .func (.func g) #[] cap] w fun e w' => e = .returned (.bool ((List.range n).any p)) ∧ Below w.heap.size w w' := by
  have H := Lib.hid (indexFunc2_any w M A n c f hn hc g cap p hg hp)
  clear hg hp
  go_enter Try.func43, Try.ntmps43
  go_wp2_with fail
  refine H.out.mono ?_
  rintro e w1 ⟨rfl, hb1⟩
  go_wp2_with fail
  go_ret
  exact ⟨ret_bool (idxF_any p n), hb1⟩
set_option maxHeartbeats 400000 in
theorem indexFunc1_any (w : World) (M : Nat → Prop) (A : Option Addr) (n c : Nat) (f : Nat → Nat → Value) (hn : n ≤ 140737488355328) (hc : Cells w M 1 A n f) (hsl : ∀ i, i < n → ∃ x : Int, f i 0 = .int .u64 x) (g : FuncId) (cap : Array Value) (p : Nat → Bool) (hg : Enters Try.prog g) (hp : Pred1 Try.prog w g cap n f p) :
    Calls Try.prog 59 #[.slice A n c, .func (.func g) #[] cap] w fun e w' => e = .returned (.int .i64 (idxF p n)) ∧ Below w.heap.size w w' := by
  go_enter Try.func59, Try.ntmps59
  go_wp2
  go_loopw [8] (fun i wr => ∃ k : Nat, k ≤ n ∧ i = .int .i64 k ∧ noneTo p k ∧ Below w.heap.size w wr) (fun i _ => n - (intOf i).toNat)
  case atStart => exact ⟨0, Nat.zero_le _, rfl, fun j hj => absurd hj (by omega), Below.refl _ _⟩
  case round =>
    obtain ⟨k, hk, rfl, hno, hbel⟩ := hrel
    by_cases hlt : k < n
    · obtain ⟨b, off, rfl, _, hbl, hck⟩ := hc.at1 hbel hlt
      have hg' := fun args => hg args wr
      have HP := hp k hlt wr hbel
      obtain ⟨x', hfk⟩ := hsl k hlt
      rw [hfk] at HP hck
      have HP' := Lib.hid HP
      clear HP hg hfk
      go_wp2_with fail
      refine HP'.out.mono ?_
      rintro e w1 ⟨rfl, hb1⟩
      by_cases hpk : p k = true
      · rw [hpk]
        go_wp2_with fail
        go_ret
        exact ⟨ret_int (idxF_some hlt hpk hno).symm, hbel.trans (hb1.mono hbel.size)⟩
      · have hpf : p k = false := by simpa using hpk
        rw [hpf]
        have HN := Lib.hid (noneTo_succ hno hpf)
        clear hpf hpk
        go_wp2_with fail
        go_roundw
        case rel => exact ⟨k + 1, by omega, by go_num, HN.out, hbel.trans (hb1.mono hbel.size)⟩
        case measure => simp [intOf]; omega
    · go_wp2
      go_ret
      obtain rfl : k = n := by omega
      exact ⟨ret_int (idxF_none hno).symm, hbel⟩
set_option maxHeartbeats 400000 in
theorem containsFunc1_any (w : World) (M : Nat → Prop) (A : Option Addr) (n c : Nat) (f : Nat → Nat → Value) (hn : n ≤ 140737488355328) (hc : Cells w M 1 A n f) (hsl : ∀ i, i < n → ∃ x : Int, f i 0 = .int .u64 x) (g : FuncId) (cap : Array Value) (p : Nat → Bool) (hg : Enters Try.prog g) (hp : Pred1 Try.prog w g cap n f p) :
    Calls Try.prog 49 #[.slice A n c, .func (.func g) #[] cap] w fun e w' => e = .returned (.bool ((List.range n).any p)) ∧ Below w.heap.size w w' := by
  have H := Lib.hid (indexFunc1_any w M A n c f hn hc hsl g cap p hg hp)
  clear hg hp hsl
  go_enter Try.func49, Try.ntmps49
  go_wp2_with fail
  refine H.out.mono ?_
  rintro e w1 ⟨rfl, hb1⟩
  go_wp2_with fail
  go_ret
  exact ⟨ret_bool (idxF_any p n), hb1⟩
end Go.Proofs.Ytpcodholllaceaa
