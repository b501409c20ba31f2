import Derived.Test.YtpcodholllaceaaE8
import Derived.Test.YtpcodholllaceaaRf
namespace Go.Proofs.Ytpcodholllaceaa
open Go.RowKit Go.Shelf

attribute [local go_sem] Oper.semAt_some

/-- what yield is told of element j -/
def encU (xs : List Nat) (j : Nat) : Array Value := #[.int .i64 (j : Int), .int .u64 ((nth xs j : Nat) : Int)]

set_option maxRecDepth 100000 in
set_option maxHeartbeats 2000000 in
theorem back1_in (F : Fence) (n : Nat) (h51 : F.fn 51) (hro : F.round = none) (hn : 1 ≤ n) (l Bs cap : Nat) (M : Nat → Prop) (A : Option Addr) (xs : List Nat) (hreach : xs.length ≤ 4096) (hBn : M Bs) (J Jx : List Nat → World → Prop)
    (hY : ∀ pre x W, J pre W → pre.length < xs.length → YieldAt F (n - 1) Try.prog l (encU xs x) W fun e W' =>
      (e = .returned (.bool true) ∧ J (pre ++ [x]) W' ∧ KM M W W') ∨ (e = .returned (.bool false) ∧ Jx (pre ++ [x]) W'))
    (W : World) (hBs : W.cell? ⟨Bs, 0, none⟩ = some (.slice A xs.length cap)) (hc : IsU64 W M (.slice A xs.length cap) xs) (h0 : J [] W) :
    CallsIn F n Try.prog 51 #[.func (.yield l) #[] #[], .pointer (some ⟨Bs, 0, none⟩)] W fun e W' => (∃ v, e = .returned v) ∧
      ((∃ ys, ys = came xs.length 0 ∧ J ys W') ∨ (∃ pre, (∃ q, q < xs.length ∧ pre = came xs.length q) ∧ Jx pre W')) := by
  obtain ⟨A', c', e', -, -, hc⟩ := hc
  cases e'
  refine callsIn_of_wp Try.func51 rfl h51 ?_ hro
  simp only [Try.ntmps51, List.size_toArray, List.length_cons, List.length_nil, Nat.reduceAdd, Nat.reduceSub, Array.replicate_succ, Array.replicate_zero, List.push_toArray, List.append_toArray, List.nil_append, List.cons_append]
  gi_wp2
  gi_loopw [3] (fun i wr => ∃ q : Nat, q ≤ xs.length ∧ i = .int .i64 ((q : Int) - 1) ∧ J (came xs.length q) wr ∧ KM M W wr) (fun i _ => ((intOf i) + 1).toNat)
  case atStart => exact ⟨xs.length, Nat.le_refl _, rfl, by rw [came_start]; exact h0, KM.refl _⟩
  case round =>
    obtain ⟨q, hq, he, hJs, hnx⟩ := hrel
    cases q with
    | zero =>
      subst he
      gi_wp2
      go_end0
      exact ⟨⟨_, rfl⟩, .inl ⟨_, rfl, hJs⟩⟩
    | succ r =>
      have he' : u3 = .int .i64 (r : Int) := by rw [he]; congr 1; omega
      clear he
      subst he'
      obtain ⟨b, off, rfl, hbn, hcs⟩ := hc (by omega)
      have hc0 : wr.cell? ⟨b, off + r, none⟩ = some (.int .u64 ((nth xs r : Nat) : Int)) := by
        have h := (hnx.cell (p := ⟨b, off + r * 1 + 0, none⟩) hbn).trans (hcs r 0 (by omega) (by omega))
        rw [Nat.mul_one, Nat.add_zero] at h
        exact h
      have hbs := (hnx.cell (p := ⟨Bs, 0, none⟩) hBn).trans hBs
      obtain ⟨fn, tmps, assign, body, hy, hR⟩ := hY _ r wr hJs (by rw [came_length]; omega)
      simp only [encU] at hy
      obtain ⟨z, hz⟩ : ∃ z, nth xs r = z := ⟨_, rfl⟩
      rw [hz] at hy hc0
      clear hz
      gi_wp2
      refine hR.mono ?_
      rintro e W3 (⟨rfl, hJ3, hk3⟩ | ⟨rfl, hJx3⟩)
      · gi_wp2
        go_roundw
        case rel => exact ⟨r, by omega, rfl, by rw [came_succ (by omega)]; exact hJ3, hnx.trans hk3⟩
        case measure => simp [intOf]
      · gi_wp2
        refine bodyPost_ret (results_none rfl _ _ _) rfl ?_
        exact ⟨⟨_, rfl⟩, .inr ⟨_, ⟨r, by omega, (came_succ (by omega)).symm⟩, hJx3⟩⟩

set_option maxHeartbeats 1000000 in
theorem back_in (F : Fence) (n : Nat) (h31 : F.fn 31) (hro : F.round = none) (a : Option Addr) (len cap : Nat) (w : World) :
    CallsIn F n Try.prog 31 #[.slice a len cap] w fun e w' => e = .returned (.func (.func 51) #[] #[.pointer (some ⟨w.heap.size, 0, none⟩)]) ∧ w' = w.alloc (.cells #[.slice a len cap] 23) := by
  refine callsIn_of_wp Try.func31 rfl h31 ?_ hro
  simp only [Try.ntmps31, List.size_toArray, List.length_cons, List.length_nil, Nat.reduceAdd, Nat.reduceSub, Array.replicate_succ, Array.replicate_zero, List.push_toArray, List.append_toArray, List.nil_append, List.cons_append]
  gi_wp2
  go_ret
  exact ⟨rfl, rfl⟩

theorem back_stops (F : Fence) (n : Nat) (h51 : F.fn 51) (hro : F.round = none) (hn : 1 ≤ n) (Bs cap : Nat) (M : Nat → Prop) (A : Option Addr) (xs : List Nat) (hreach : xs.length ≤ 4096) (hBn : M Bs) (w : World) (hM : ∀ k, M k → k < w.heap.size)
    (hBs : w.cell? ⟨Bs, 0, none⟩ = some (.slice A xs.length cap)) (hc : IsU64 w M (.slice A xs.length cap) xs) :
    SeqStopsK F n Try.prog 51 #[.pointer (some ⟨Bs, 0, none⟩)] (encU xs) (KM M) (fun ys => ys = came xs.length 0) (fun pre => ∃ q, q < xs.length ∧ pre = came xs.length q) xs.length w := fun l J Jx W hW _ _ hY h0 =>
  back1_in F n h51 hro hn l Bs cap M A xs hreach hBn J Jx hY W ((hW.cell (p := ⟨Bs, 0, none⟩) (hM _ hBn)).trans hBs) (IsSl.keep hc fun _ hp _ => hW.cell (hM _ hp)) h0
end Go.Proofs.Ytpcodholllaceaa
