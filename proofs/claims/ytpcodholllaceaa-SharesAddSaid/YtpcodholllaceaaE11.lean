import Derived.Test.YtpcodholllaceaaE10
namespace Go.Proofs.Ytpcodholllaceaa
open Go.RowKit Go.Shelf

theorem split_any (w : World) (M : Nat → Prop) (v : Value) (xs : List Nat) (h : IsU64 w M v xs) (n : Int) :
    Calls Try.prog 14 #[v, .int .i64 n] w (ShsE w (splitD xs n)) := by
  by_cases hy : allD coefOk xs = true ∧ 1 ≤ n ∧ n ≤ 192
  · obtain ⟨n', rfl⟩ : ∃ n' : Nat, n = (n' : Int) := ⟨n.toNat, by omega⟩
    exact split_go w M v xs h n' hy.1 (by omega) (by omega)
  · rw [splitD_no hy]
    have CA := Lib.hid (all_any asks_coef w M v xs h)
    obtain ⟨A, c, rfl, h1, h2, -⟩ := h
    by_cases ha : allD coefOk xs = true
    · rw [ha] at CA
      by_cases g1 : n < 1
      · clear hy ha
        go_enter Try.func14, Try.ntmps14
        go_wp2_with fail
        refine CA.out.mono ?_
        rintro e w1 ⟨rfl, hb1⟩
        go_wp2_with fail
        go_ret2
        exact ⟨_, rfl, IsSl.nil, hb1⟩
      · have g2 : 192 < n := by
          refine Classical.byContradiction fun hn => hy ⟨ha, by omega, by omega⟩
        clear hy ha
        go_enter Try.func14, Try.ntmps14
        go_wp2_with fail
        refine CA.out.mono ?_
        rintro e w1 ⟨rfl, hb1⟩
        go_wp2_with fail
        go_ret2
        exact ⟨_, rfl, IsSl.nil, hb1⟩
    · rw [show allD coefOk xs = false by simpa using ha] at CA
      clear hy ha
      go_enter Try.func14, Try.ntmps14
      go_wp2_with fail
      refine CA.out.mono ?_
      rintro e w1 ⟨rfl, hb1⟩
      go_wp2_with fail
      go_ret2
      exact ⟨_, rfl, IsSl.nil, hb1⟩

attribute [local go_sem] Oper.semAt_some
/-- the exponent of factor q -/
def kq (x : Nat) : Nat → Nat
  | 0 => 1
  | q + 1 => kq x q * x % 1152921504606845789
theorem kq_lt (x : Nat) : ∀ q, kq x q < 1152921504606845789
  | 0 => (by decide : 1 < 1152921504606845789)
  | q + 1 => Nat.mod_lt _ (by decide)
/-- factor q -/
def facQ (cs : List Nat) (x q : Nat) : Nat := pw (nth cs q) (kq x q)
def encF (cs : List Nat) (x q : Nat) : Array Value := #[.int .u64 ((facQ cs x q : Nat) : Int)]
theorem grown_drewN (w : World) (n : Nat) (row : Option Nat) : w.grownBy (w.drewN n) row := ⟨rfl, rfl, rfl, Nat.le_refl _, fun _ _ _ => rfl⟩
theorem nth_get {cs : List Nat} {q : Nat} (h : q < cs.length) : nth cs q = cs[q] := by unfold nth; rw [List.getD_eq_getElem?_getD, List.getElem?_eq_getElem h]; rfl

set_option maxRecDepth 100000 in
set_option maxHeartbeats 2000000 in
theorem factors1_in (n : Nat) (hn : 1 ≤ n) (l Bs Bx cap : Nat) (M : Nat → Prop) (A : Option Addr) (cs : List Nat) (x : Nat) (hx : x < 1152921504606845789) (hreach : cs.length ≤ 4096) (hBx : M Bx) (J Jx : List Nat → World → Prop) (hJ : ∀ pre W m, J pre W → J pre (W.drewN m))
    (hY : ∀ pre q W, J pre W → pre.length < cs.length → YieldAt Fence.wide (n - 1) Try.prog l (encF cs x q) W fun e W' =>
      (e = .returned (.bool true) ∧ J (pre ++ [q]) W' ∧ KM M W W') ∨ (e = .returned (.bool false) ∧ Jx (pre ++ [q]) W'))
    (W : World) (cBs : W.cell? ⟨Bs, 0, none⟩ = some (.slice A cs.length cap)) (cBx : W.cell? ⟨Bx, 0, none⟩ = some (.int .u64 (x : Int))) (hc : IsU64 W M (.slice A cs.length cap) cs) (h0 : J [] W) :
    CallsIn Fence.wide n Try.prog 54 #[.func (.yield l) #[] #[], .pointer (some ⟨Bs, 0, none⟩), .pointer (some ⟨Bx, 0, none⟩)] W fun e W' => (∃ v, e = .returned v) ∧
      ((∃ ys, ys = List.range cs.length ∧ J ys W') ∨ (∃ pre, (∃ q, q < cs.length ∧ pre = List.range (q + 1)) ∧ Jx pre W')) := by
  obtain ⟨A', c', e', -, -, hc⟩ := hc
  cases e'
  refine callsIn_of_wp Try.func54 rfl trivial ?_ rfl
  simp only [Try.ntmps54, List.size_toArray, List.length_cons, List.length_nil, Nat.reduceAdd, Nat.reduceSub, Array.replicate_succ, Array.replicate_zero, List.push_toArray, List.append_toArray, List.nil_append, List.cons_append]
  gi_wp2_with fail
  gi_loopw [4, 9] (fun kk i wr => ∃ q : Nat, q ≤ cs.length ∧ i = .int .i64 (q : Int) ∧ kk = .int .u64 ((kq x q : Nat) : Int) ∧ Hid (J (List.range q) wr) ∧ Hid (KM M W wr)) (fun _ i _ => cs.length - (intOf i).toNat)
  case atStart => exact ⟨0, Nat.zero_le _, rfl, rfl, Lib.hid h0, Lib.hid (KM.refl _)⟩
  case round =>
    obtain ⟨q, hq, rfl, rfl, HJ0, HK⟩ := hrel
    by_cases hlt : q < cs.length
    · have hlt' : (q : Int) < (cs.length : Int) := by omega
      obtain ⟨b, off, rfl, hbn, hcs⟩ := hc (by omega)
      have hc0 : wr.cell? ⟨b, off + q, none⟩ = some (.int .u64 ((nth cs q : Nat) : Int)) := by
        have h := (HK.out.cell (p := ⟨b, off + q * 1 + 0, none⟩) hbn).trans (hcs q 0 hlt (by omega))
        rw [Nat.mul_one, Nat.add_zero] at h
        exact h
      have CP := fun W => Lib.hid (Pow_any (nth cs q) (kq x q) (Nat.lt_trans (kq_lt x q) (by decide)) W)
      have CM := fun W => Lib.hid (mul_Q (kq x q) x (kq_lt x q) hx W)
      have HE : Hid (encF cs x q = #[.int .u64 ((pw (nth cs q) (kq x q) : Nat) : Int)]) := rfl
      have HQ1 : Hid (kq x (q + 1) = kq x q * x % 1152921504606845789) := rfl
      obtain ⟨z, hz⟩ : ∃ z, pw (nth cs q) (kq x q) = z := ⟨_, rfl⟩
      rw [hz] at CP HE
      rw [← HQ1.out] at CM
      clear hz
      have hY' := fun W' hW' hl' => hY (List.range q) q W' hW' hl'
      rw [HE.out] at hY'
      have HYh := Lib.hid hY'
      clear hY'
      gi_wp2_with fail
      refine ⟨trivial, callsIn_wide.2 ?_⟩
      refine (CP _).out.mono ?_
      rintro e w2 ⟨rfl, m, rfl⟩
      obtain ⟨fn, tmps, assign, body, hy, hR⟩ := HYh.out (wr.drewN m) (hJ _ _ _ HJ0.out) (by rw [List.length_range]; exact hlt)
      gi_wp2_with fail
      refine hR.mono ?_
      rintro e W3 (⟨rfl, hJ3, hk3⟩ | ⟨rfl, hJx3⟩)
      · have HK3 := Lib.hid ((HK.out.drewN m).trans hk3)
        have hx3 := (HK3.out.cell (p := ⟨Bx, 0, none⟩) hBx).trans cBx
        have HJ3 := Lib.hid hJ3
        clear hJ3 hk3 hy hR
        gi_wp2_with fail
        refine ⟨trivial, callsIn_wide.2 ?_⟩
        refine (CM _).out.mono ?_
        rintro e w4 ⟨rfl, m2, rfl⟩
        gi_wp2_with fail
        go_roundw
        case rel => exact ⟨q + 1, by omega, by go_num, rfl, Lib.hid (hJ _ _ _ (by rw [List.range_succ]; exact HJ3.out)), Lib.hid (HK3.out.drewN _)⟩
        case measure => simp [intOf]; omega
      · have HJ3 := Lib.hid hJx3
        clear hJx3 hy hR
        gi_wp2_with fail
        refine bodyPost_ret (results_none rfl _ _ _) rfl ?_
        exact ⟨⟨_, rfl⟩, .inr ⟨_, ⟨q, hlt, rfl⟩, by rw [List.range_succ]; exact HJ3.out⟩⟩
    · have hnl : ¬ (q : Int) < (cs.length : Int) := by omega
      gi_wp2_with fail
      go_end0
      obtain rfl : q = cs.length := by omega
      exact ⟨⟨_, rfl⟩, .inl HJ0.out⟩
theorem factors_any (A : Option Addr) (len cap x : Nat) (w : World) :
    Calls Try.prog 39 #[.slice A len cap, .int .u64 x] w fun e w' => e = .returned (.func (.func 54) #[] #[.pointer (some ⟨w.heap.size, 0, none⟩), .pointer (some ⟨w.heap.size + 1, 0, none⟩)]) ∧ w' = (w.alloc (.cells #[.slice A len cap] 23)).alloc (.cells #[.int .u64 x] 22) := by
  go_enter Try.func39, Try.ntmps39
  go_wp2_with fail
  go_ret
  exact ⟨rfl, rfl⟩
theorem factors_stops (n : Nat) (hn : 1 ≤ n) (Bs Bx cap : Nat) (M : Nat → Prop) (A : Option Addr) (cs : List Nat) (x : Nat) (hx : x < 1152921504606845789) (hreach : cs.length ≤ 4096) (hBs : M Bs) (hBx : M Bx) (w : World) (hM : ∀ k, M k → k < w.heap.size)
    (cBs : w.cell? ⟨Bs, 0, none⟩ = some (.slice A cs.length cap)) (cBx : w.cell? ⟨Bx, 0, none⟩ = some (.int .u64 (x : Int))) (hc : IsU64 w M (.slice A cs.length cap) cs) :
    SeqStopsK Fence.wide n Try.prog 54 #[.pointer (some ⟨Bs, 0, none⟩), .pointer (some ⟨Bx, 0, none⟩)] (encF cs x) (KM M) (fun ys => ys = List.range cs.length) (fun pre => ∃ q, q < cs.length ∧ pre = List.range (q + 1)) cs.length w := fun l J Jx W hW hJ _ hY h0 =>
  factors1_in n hn l Bs Bx cap M A cs x hx hreach hBx J Jx (fun pre W' m hj => hJ pre W' _ none hj (grown_drewN W' m none) (fun r e => by cases e)) hY W ((hW.cell (p := ⟨Bs, 0, none⟩) (hM _ hBs)).trans cBs) ((hW.cell (p := ⟨Bx, 0, none⟩) (hM _ hBx)).trans cBx) (IsSl.keep hc fun _ hp _ => hW.cell (hM _ hp)) h0
end Go.Proofs.Ytpcodholllaceaa
