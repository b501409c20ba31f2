import Derived.Test.YtpcodholllaceaaE14
namespace Go.Proofs.Ytpcodholllaceaa
open Go.RowKit Go.Shelf

theorem quiet_same {P : Program} {f : FuncId} {args : Array Value} {w : World} {n : Nat} {v : Value}
    (h : Calls P f args (w.drewN n) fun e w' => e = .returned v ∧ w.drewN n = w') : Calls P f args (w.drewN n) fun e w'' => e = .returned v ∧ ∃ m, w'' = w.drewN m :=
  h.mono fun _ _ ⟨he, hm⟩ => ⟨he, n, hm.symm⟩
/-- the reference's x - b -/
theorem refMinus_any (a b : Nat) (ha : a < 1152921504606845789) (hb : b < 1152921504606845789) (z : Nat) (hz : 1152921504606845789 - b = z) (w : World) : Calls Try.prog 48 #[.int .u64 a, .int .u64 z, .int .u64 1152921504606845789] w fun e w' => e = .returned (.int .u64 ((minusQ a b : Nat) : Int)) ∧ w = w' := by
  have h := plus_any a z 1152921504606845789 (by omega) (by decide) w
  rw [show (a + z) % 1152921504606845789 = minusQ a b by unfold minusQ; rw [hz]] at h
  exact h
set_option maxRecDepth 100000 in
set_option maxHeartbeats 2000000 in
theorem refAt_any (w : World) (M : Nat → Prop) (v : Value) (l : List (Nat × Nat)) (h : IsShs w M v l) (hq : ShQ l) (x : Nat) (hx : x < 1152921504606845789) :
    Calls Try.prog 47 #[v, .int .u64 x] w fun e w' => e = .returned (.int .u64 ((atD l x : Nat) : Int)) ∧ ∃ n, w' = w.drewN n := by
  have H := Lib.hid h
  have HQ := Lib.hid hq
  have HX := Lib.hid hx
  obtain ⟨A, c, rfl, h1, h2, -⟩ := h
  clear hq hx
  go_enter Try.func47, Try.ntmps47
  go_wp2_with fail
  go_loopw [5, 6] (fun y i wr => ∃ k : Nat, k ≤ l.length ∧ i = .int .i64 k ∧ y = .int .u64 ((atSum l x k : Nat) : Int) ∧ Hid (Drn w wr)) (fun _ i _ => l.length - (intOf i).toNat)
  case atStart => exact ⟨0, Nat.zero_le _, rfl, rfl, Lib.hid (Drn.refl _)⟩
  case round =>
    obtain ⟨k, hk, rfl, rfl, HD⟩ := hrel
    by_cases hlt : k < l.length
    · have hb := drn_below HD.out
      obtain ⟨b, off, rfl, hbl, hck, hck1⟩ := H.out.atD_ hb hlt
      have hlt' : (k : Int) < (l.length : Int) := by omega
      have hk0 : (0 : Int) ≤ (k : Int) := by omega
      clear hb
      go_wp2_with fail
      have HD1 := HD
      clear HD hck hck1
      go_loopw [7, 8, 9] (fun tp bt i wx => ∃ j : Nat, j ≤ l.length ∧ i = .int .i64 j ∧ tp = .int .u64 ((prodQ l k x j (sndD l k) : Nat) : Int) ∧ bt = .int .u64 ((prodQ l k (fstD l k) j 1 : Nat) : Int) ∧ Hid (Drn w wx)) (fun _ _ i _ => l.length - (intOf i).toNat)
      case atStart => exact ⟨0, Nat.zero_le _, rfl, rfl, rfl, HD1⟩
      case round =>
        obtain ⟨j, hj, rfl, rfl, rfl, HD⟩ := hrel
        have hb := drn_below HD.out
        by_cases hltj : j < l.length
        · obtain ⟨b', off', e', hbl', hcj, hcj1⟩ := H.out.atD_ hb hltj
          cases e'
          obtain ⟨b', off', e', -, hck, hck1⟩ := H.out.atD_ hb hlt
          cases e'
          have hltj' : (j : Int) < (l.length : Int) := by omega
          have hj0 : (0 : Int) ≤ (j : Int) := by omega
          clear hb
          by_cases hjk : j = k
          · have hne : ((j : Int) != (k : Int)) = false := by rw [hjk]; simp
            have P1 := Lib.hid (prodQ_yes (l := l) (x := x) (y := sndD l k) hjk)
            have P2 := Lib.hid (prodQ_yes (l := l) (x := fstD l k) (y := 1) hjk)
            clear hjk hcj hcj1 hck hck1
            go_wp2_with fail
            go_roundw
            case rel => exact ⟨j + 1, by omega, by go_num, by rw [P1.out], by rw [P2.out], HD⟩
            case measure => simp [intOf]; omega
          · have hne : ((j : Int) != (k : Int)) = true := by simp; omega
            have P1 := Lib.hid (prodQ_no (l := l) (x := x) (y := sndD l k) hjk)
            have P2 := Lib.hid (prodQ_no (l := l) (x := fstD l k) (y := 1) hjk)
            obtain ⟨z, hz⟩ : ∃ z, 1152921504606845789 - fstD l j = z := ⟨_, rfl⟩
            have e1 : IntKind.u64.wrap (1152921504606845789 - ((fstD l j : Nat) : Int)) = (z : Int) := wn (by have := (HQ.out.getD j).1; unfold fstD at hz ⊢; omega) (by omega)
            have C1 := fun W => Lib.hid (refMinus_any x (fstD l j) HX.out (HQ.out.getD j).1 z hz W)
            have C3 := fun W => Lib.hid (refMinus_any (fstD l k) (fstD l j) (HQ.out.getD k).1 (HQ.out.getD j).1 z hz W)
            have C2 := fun W => Lib.hid (times_any (prodQ l k x j (sndD l k)) (minusQ x (fstD l j)) 1152921504606845789 (prodQ_lt (HQ.out.getD k).2 _) (Nat.lt_trans (minusQ_lt _ _) (by decide)) (by decide) W)
            have C4 := fun W => Lib.hid (times_any (prodQ l k (fstD l k) j 1) (minusQ (fstD l k) (fstD l j)) 1152921504606845789 (prodQ_lt (by decide) _) (Nat.lt_trans (minusQ_lt _ _) (by decide)) (by decide) W)
            rw [show prodQ l k x j (sndD l k) * minusQ x (fstD l j) % 1152921504606845789 = prodQ l k x (j + 1) (sndD l k) from P1.out.symm] at C2
            rw [show prodQ l k (fstD l k) j 1 * minusQ (fstD l k) (fstD l j) % 1152921504606845789 = prodQ l k (fstD l k) (j + 1) 1 from P2.out.symm] at C4
            clear hjk P1 P2 hz
            generalize prodQ l k x j (sndD l k) = tp0 at C2 ⊢
            generalize prodQ l k (fstD l k) j 1 = bt0 at C4 ⊢
            generalize minusQ x (fstD l j) = m1 at C1 C2
            generalize minusQ (fstD l k) (fstD l j) = m2 at C3 C4
            go_wp2_with fail
            refine (C1 _).out.mono ?_
            rintro e w3 ⟨rfl, rfl⟩
            go_wp2_with fail
            refine (C2 _).out.mono ?_
            rintro e w3 ⟨rfl, rfl⟩
            go_wp2_with fail
            go_quiet ((first | (go_at_call 48; with_reducible exact quiet_same (C3 _).out) | (go_at_call 42; with_reducible exact quiet_same (C4 _).out)))
            go_wp2_with fail
            go_roundw
            case rel => exact ⟨j + 1, by omega, by go_num, rfl, rfl, Lib.hid (HD.out.drewN _)⟩
            case measure => simp [intOf]; omega
        · have hnl : ¬ (j : Int) < (l.length : Int) := by omega
          obtain rfl : j = l.length := by omega
          clear hb
          have C1 := fun W => Lib.hid (power_any (prodQ l k (fstD l k) l.length 1) (1152921504606845789 - 2) 1152921504606845789 (by decide) (by decide) (by decide) W)
          rw [Nat.mod_eq_of_lt (prodQ_lt (by decide) _)] at C1
          have HI : Hid (invQ (prodQ l k (fstD l k) l.length 1) = sqm 1152921504606845789 64 1 (prodQ l k (fstD l k) l.length 1) (1152921504606845789 - 2)) := rfl
          rw [← HI.out] at C1
          have C2 := fun W => Lib.hid (times_any (prodQ l k x l.length (sndD l k)) (invQ (prodQ l k (fstD l k) l.length 1)) 1152921504606845789 (prodQ_lt (HQ.out.getD k).2 _) (Nat.lt_trans (invQ_lt _) (by decide)) (by decide) W)
          have HT : Hid (atTerm l x k = prodQ l k x l.length (sndD l k) * invQ (prodQ l k (fstD l k) l.length 1) % 1152921504606845789) := rfl
          rw [← HT.out] at C2
          have hlt2 : atTerm l x k < 1152921504606845789 := Nat.mod_lt _ (by decide)
          have hls := atSum_lt l x k
          have C3 := fun W => Lib.hid (plus_any (atSum l x k) (atTerm l x k) 1152921504606845789 (by omega) (by decide) W)
          have HS : Hid (atSum l x (k + 1) = (atSum l x k + atTerm l x k) % 1152921504606845789) := rfl
          rw [← HS.out] at C3
          clear hlt2 hls HT HI
          generalize prodQ l k (fstD l k) l.length 1 = bt0 at C1 C2 ⊢
          generalize prodQ l k x l.length (sndD l k) = tp0 at C2 ⊢
          generalize invQ bt0 = iv at C1 C2
          go_wp2_with fail
          refine (C1 _).out.mono ?_
          rintro e w3 ⟨rfl, rfl⟩
          go_wp2_with fail
          refine (C2 _).out.mono ?_
          rintro e w3 ⟨rfl, rfl⟩
          go_wp2_with fail
          refine (C3 _).out.mono ?_
          rintro e w3 ⟨rfl, rfl⟩
          go_wp2_with fail
          go_roundw
          case rel => exact ⟨k + 1, by omega, by go_num, rfl, HD⟩
          case measure => simp [intOf]; omega
    · have hnl : ¬ (k : Int) < (l.length : Int) := by omega
      obtain rfl : k = l.length := by omega
      go_wp2_with fail
      go_ret
      exact ⟨rfl, HD.out⟩
end Go.Proofs.Ytpcodholllaceaa
