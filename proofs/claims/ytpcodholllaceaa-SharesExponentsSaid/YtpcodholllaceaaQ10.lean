import Derived.Test.YtpcodholllaceaaF2
namespace Go.Proofs.Ytpcodholllaceaa
open Go.RowKit Go.Shelf

theorem pwadd_prod {a k m : Nat} (h : k + m < 18446744073709551616) : pw a k * pw a m % 2305843009213691579 = pw a (k + m) := pw_add h
set_option maxRecDepth 100000 in
set_option maxHeartbeats 2000000 in
theorem law10 (w : World) (a k m : Nat) (_ha : a < 18446744073709551616) (hk : k < 18446744073709551616) (hm : m < 18446744073709551616) :
    Calls Try.prog 10 #[.int .u64 a, .int .u64 k, .int .u64 m] w fun e w' => e = .returned (.bool true) ∧ Below w.heap.size w w' := by
  have CS := fun W => Lib.hid (sane_any W)
  have C1 := fun W => Lib.hid (Pow_any a k hk W)
  have C2 := fun W => Lib.hid (Pow_any a m hm W)
  have C3 := fun W => Lib.hid (product_any (pw a k) (pw a m) W)
  obtain ⟨s, hs⟩ : ∃ s, (k + m) % 18446744073709551616 = s := ⟨_, rfl⟩
  have hsl : s < 18446744073709551616 := by rw [← hs]; exact Nat.mod_lt _ (by decide)
  have hw : IntKind.u64.wrap ((k : Int) + (m : Int)) = (s : Int) := by rw [IntKind.wrap_u64, ← hs]; omega
  have C4 := fun W => Lib.hid (Pow_any a s hsl W)
  have hc : decide ((k : Int) ≤ (s : Int)) = false ∨ pw a k * pw a m % 2305843009213691579 = pw a s := by
    by_cases hlt : k + m < 18446744073709551616
    · right; rw [pwadd_prod hlt, ← hs, Nat.mod_eq_of_lt hlt]
    · left; exact decide_eq_false (by omega)
  have C5 := fun W => Lib.hid (Pow_any 4 k hk W)
  obtain ⟨k', hk'⟩ : ∃ z, k % 1152921504606845789 = z := ⟨_, rfl⟩
  obtain ⟨m', hm'⟩ : ∃ z, m % 1152921504606845789 = z := ⟨_, rfl⟩
  have hkl : k' < 18446744073709551616 := by rw [← hk']; exact Nat.lt_trans (Nat.mod_lt _ (by decide)) (by decide : 1152921504606845789 < 18446744073709551616)
  have hml : m' < 18446744073709551616 := by rw [← hm']; exact Nat.lt_trans (Nat.mod_lt _ (by decide)) (by decide : 1152921504606845789 < 18446744073709551616)
  have q1 : Int.tmod (k : Int) 1152921504606845789 = (k' : Int) := by rw [← hk']; exact (rem_lit _ _).1
  have q2 : (k : Int) % 1152921504606845789 = (k' : Int) := by rw [← hk']; exact (rem_lit _ _).2
  have q3 : Int.tmod (m : Int) 1152921504606845789 = (m' : Int) := by rw [← hm']; exact (rem_lit _ _).1
  have q4 : (m : Int) % 1152921504606845789 = (m' : Int) := by rw [← hm']; exact (rem_lit _ _).2
  obtain ⟨a', ha'⟩ : ∃ z, a % 2305843009213691579 = z := ⟨_, rfl⟩
  have q5 : Int.tmod (a : Int) 2305843009213691579 = (a' : Int) := by rw [← ha']; exact (rem_lit _ _).1
  have q6 : (a : Int) % 2305843009213691579 = (a' : Int) := by rw [← ha']; exact (rem_lit _ _).2
  have C6 := fun W => Lib.hid (Pow_any 4 k' hkl W)
  rw [show pw 4 k' = pw 4 k by rw [← hk']; exact pw4_mod hk] at C6
  have C7 := fun W => Lib.hid (Pow_any (pw 4 k) m' hml W)
  have C8 := fun W => Lib.hid (Times_any k m W)
  have C9 := fun W => Lib.hid (Pow_any 4 (timesQ k m) (Nat.lt_trans (Nat.mod_lt _ (by decide)) (by decide : 1152921504606845789 < 18446744073709551616)) W)
  rw [show pw 4 (timesQ k m) = pw (pw 4 k) m' by rw [← hm']; exact (pw4_mul hk).symm] at C9
  have C10 := fun W => Lib.hid (Pow_any a 1 (by decide) W)
  rw [pw_one, ha'] at C10
  have C11 := fun W => Lib.hid (Pow_any a 0 (by decide) W)
  rw [pw_zero] at C11
  generalize pw a k * pw a m % 2305843009213691579 = u at C3 hc
  generalize pw a k = ak at C1 C3
  generalize pw a m = am at C2 C3
  generalize pw a s = ps at C4 hc
  generalize pw (pw 4 k) m' = t at C7 C9
  generalize pw 4 k = gk at C5 C6 C7
  generalize timesQ k m = tq at C8 C9
  clear hs hsl hk' hm' hkl hml ha' hk hm
  have HC := Lib.hid hc
  clear hc
  go_enter Try.func10, Try.ntmps10
  go_wp2_with fail
  refine (CS _).out.mono ?_
  rintro e w1 ⟨rfl, hb1⟩
  have HB1 := Lib.hid hb1
  clear hb1
  go_wp2_with fail
  refine (C1 _).out.mono ?_
  rintro e w2 ⟨rfl, n2, rfl⟩
  go_wp2_with fail
  refine (C2 _).out.mono ?_
  rintro e w3 ⟨rfl, n3, rfl⟩
  go_wp2_with fail
  refine (C3 _).out.mono ?_
  rintro e w4 ⟨rfl, rfl⟩
  go_wp2_with fail
  refine (C4 _).out.mono ?_
  rintro e w5 ⟨rfl, n5, rfl⟩
  by_cases hks : (k : Int) ≤ (s : Int)
  · have hup : u = ps := HC.out.elim (fun hd => absurd hks (of_decide_eq_false hd)) id
    subst hup
    have hne : ((u : Int) != (u : Int)) = false := by simp
    go_wp2_with fail
    refine (C5 _).out.mono ?_
    rintro e w6 ⟨rfl, n6, rfl⟩
    go_wp2_with fail
    refine (C6 _).out.mono ?_
    rintro e w7 ⟨rfl, n7, rfl⟩
    go_wp2_with fail
    refine (C5 _).out.mono ?_
    rintro e w8 ⟨rfl, n8, rfl⟩
    go_wp2_with fail
    refine (C7 _).out.mono ?_
    rintro e w9 ⟨rfl, n9, rfl⟩
    go_wp2_with fail
    refine (C8 _).out.mono ?_
    rintro e w10 ⟨rfl, rfl⟩
    go_wp2_with fail
    refine (C9 _).out.mono ?_
    rintro e w11 ⟨rfl, n11, rfl⟩
    go_wp2_with fail
    refine (C10 _).out.mono ?_
    rintro e w12 ⟨rfl, n12, rfl⟩
    go_wp2_with fail
    refine (C11 _).out.mono ?_
    rintro e w13 ⟨rfl, n13, rfl⟩
    go_wp2_with fail
    go_ret
    exact ⟨rfl, by first | exact below_drewN HB1.out _ | (repeat (first | exact HB1.out | refine below_drewN ?_ _))⟩
  · have hks' : ¬ (k : Int) ≤ (s : Int) := hks
    go_wp2_with fail
    refine (C5 _).out.mono ?_
    rintro e w6 ⟨rfl, n6, rfl⟩
    go_wp2_with fail
    refine (C6 _).out.mono ?_
    rintro e w7 ⟨rfl, n7, rfl⟩
    go_wp2_with fail
    refine (C5 _).out.mono ?_
    rintro e w8 ⟨rfl, n8, rfl⟩
    go_wp2_with fail
    refine (C7 _).out.mono ?_
    rintro e w9 ⟨rfl, n9, rfl⟩
    go_wp2_with fail
    refine (C8 _).out.mono ?_
    rintro e w10 ⟨rfl, rfl⟩
    go_wp2_with fail
    refine (C9 _).out.mono ?_
    rintro e w11 ⟨rfl, n11, rfl⟩
    go_wp2_with fail
    refine (C10 _).out.mono ?_
    rintro e w12 ⟨rfl, n12, rfl⟩
    go_wp2_with fail
    refine (C11 _).out.mono ?_
    rintro e w13 ⟨rfl, n13, rfl⟩
    go_wp2_with fail
    go_ret
    exact ⟨rfl, by first | exact below_drewN HB1.out _ | (repeat (first | exact HB1.out | refine below_drewN ?_ _))⟩
end Go.Proofs.Ytpcodholllaceaa
