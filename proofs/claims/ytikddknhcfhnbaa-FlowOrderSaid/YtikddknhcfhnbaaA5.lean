/- Side of the reference. -/
import Derived.Test.YtikddknhcfhnbaaA4
import Derived.Test.YtikddknhcfhnbaaZ1
namespace Go.Proofs.Ytikddknhcfhnbaa
open Go.RowKit
set_option maxHeartbeats 1000000 in
theorem rside_any (w : World) (M1 M2 : Nat → Prop) (v1 v2 : Value) (n : NetD) (s : List Int) (h1 : IsNet w M1 v1 n) (h2 : IsInts w M2 v2 s) (hlo : 2 ≤ n.vs) (hhi : n.vs ≤ 512) :
    Calls Try.prog 24 #[v1, v2] w (BoolW (sideB n s) w) := by
  obtain ⟨va, rfl, -⟩ := h1
  have H := Lib.hid h2
  obtain ⟨A, c, rfl, hl1, hm1, -⟩ := h2
  have HNO := Lib.hid (fun (h : ¬ (riseTo s s.length ∧ 0 < s.length ∧ nthI s 0 = 0 ∧ nthI s (s.length - 1) < n.vs - 1 ∧ (s.length : Int) < n.vs)) => show sideB n s = false by rw [← Bool.not_eq_true]; exact fun hh => h (sideB_rise hh))
  have HYES := Lib.hid (@sideB_of n s)
  obtain ⟨z, hz⟩ : ∃ z, z = sideB n s := ⟨_, rfl⟩
  rw [← hz] at HNO HYES ⊢
  clear hz
  obtain ⟨V, hV⟩ : ∃ V, V = n.vs := ⟨_, rfl⟩
  rw [← hV] at hlo hhi HNO HYES ⊢
  clear hV
  have hV1 : IntKind.i64.wrap (V - 1) = V - 1 := IntWalk.i64_in _ (by omega)
  rcases Nat.eq_zero_or_pos s.length with hz | hp
  · have HZ := Lib.hid (HNO.out (fun hh => by have := hh.2.1; omega))
    rw [hz]
    clear HNO HYES
    go_enter Try.func24, Try.ntmps24
    go_wp2_with fail
    go_quiet (fail)
    go_wp2_with fail
    go_ret
    exact ⟨ret_bool HZ.out.symm, below_drewN ((Below.refl _ _).alloc (Nat.le_refl _) _) _⟩
  obtain ⟨L, hLL⟩ : ∃ L, L = s.length := ⟨_, rfl⟩
  obtain ⟨m, hL⟩ : ∃ m, m = L - 1 := ⟨_, rfl⟩
  have hh := H.out
  rw [← hLL] at hh HNO HYES hl1 hp ⊢
  rw [← hL] at HNO HYES
  replace H := Lib.hid hh
  clear hh
  have hml : m + 1 = L := by omega
  have dl0 : ((L : Int) == 0) = false := by rw [beq_eq_false_iff_ne]; omega
  have hm0 : IntKind.i64.wrap ((L : Int) - 1) = (m : Int) := by
    rw [show (L : Int) - 1 = (m : Int) by omega]; exact IntWalk.i64_in _ (by omega)
  obtain ⟨b, off, rfl, hb, f0⟩ := H.out.at_ (Below.refl _ _) (show 0 < s.length by omega)
  obtain ⟨b', off', e, -, fm⟩ := H.out.at_ (Below.refl _ _) (show m < s.length by omega)
  cases e
  have HLEN := Lib.hid (And.intro hLL hml)
  rw [Nat.add_zero] at f0
  obtain ⟨x0, hx0⟩ : ∃ x, x = nthI s 0 := ⟨_, rfl⟩
  obtain ⟨xm, hxm⟩ : ∃ x, x = nthI s m := ⟨_, rfl⟩
  rw [← hx0] at f0 HNO HYES
  rw [← hxm] at fm HNO HYES
  have hmn0 : (0 : Int) ≤ (m : Int) := by omega
  have hmn1 : (m : Int) < (L : Int) := by omega
  have hmn2 : (0 : Int) < (L : Int) := by omega
  clear hL hLL hml hp hx0 hxm hl1
  by_cases s1 : V ≤ (L : Int)
  · have ds1 : decide (V ≤ (L : Int)) = true := decide_eq_true s1
    have HZ := Lib.hid (HNO.out (fun hh => by have := hh.2.2.2.2; omega))
    clear HNO HYES
    go_enter Try.func24, Try.ntmps24
    go_wp2_with fail
    go_quiet (fail)
    go_wp2_with fail
    go_ret
    exact ⟨ret_bool HZ.out.symm, below_drewN ((Below.refl _ _).alloc (Nat.le_refl _) _) _⟩
  have ds1 : decide (V ≤ (L : Int)) = false := decide_eq_false s1
  by_cases s2 : x0 = 0
  · have ds2 : (x0 != 0) = false := by simp [s2]
    by_cases s3 : V - 1 ≤ xm
    · have ds3 : decide (V - 1 ≤ xm) = true := decide_eq_true s3
      have HZ := Lib.hid (HNO.out (fun hh => by have := hh.2.2.2.1; omega))
      clear HNO HYES
      go_enter Try.func24, Try.ntmps24
      go_wp2_with fail
      go_quiet (fail)
      go_wp2_with fail
      go_ret
      exact ⟨ret_bool HZ.out.symm, below_drewN ((Below.refl _ _).alloc (Nat.le_refl _) _) _⟩
    have ds3 : decide (V - 1 ≤ xm) = false := decide_eq_false s3
    have HLT := Lib.hid (show xm < V - 1 by omega)
    go_enter Try.func24, Try.ntmps24
    go_wp2_with fail
    go_quiet (fail)
    go_wp2_with fail
    go_loopw [5] (fun q wr => ∃ k : Nat, 1 ≤ k ∧ k ≤ L ∧ q = .int .i64 (k : Int) ∧ Hid (riseTo s k) ∧ Hid (Below w.heap.size w wr)) (fun q _ => L - (intOf q).toNat)
    case atStart => exact ⟨1, Nat.le_refl _, by omega, rfl, Lib.hid (fun i h1 h2 => absurd h1 (by omega)), Lib.hid (below_drewN ((Below.refl _ _).alloc (Nat.le_refl _) _) _)⟩
    case round =>
      obtain ⟨k, hk1, hk, rfl, HS, HB⟩ := hrel
      by_cases hlt : k < L
      · obtain ⟨j, rfl⟩ : ∃ j, k = j + 1 := ⟨k - 1, by omega⟩
        obtain ⟨_, _, e, -, f1⟩ := H.out.at_ HB.out (show j < s.length by have := HLEN.out; omega)
        cases e
        obtain ⟨_, _, e, -, f2⟩ := H.out.at_ HB.out (show j + 1 < s.length by have := HLEN.out; omega)
        cases e
        have hm1 : ((j + 1 : Nat) : Int) = (j : Int) + 1 := by omega
        have hkk : (j : Int) + 1 < (L : Int) := by omega
        have hk0 : (0 : Int) ≤ (j : Int) + 1 := by omega
        have hj0 : (0 : Int) ≤ (j : Int) := by omega
        have hjl : (j : Int) < (L : Int) := by omega
        have hw1 : IntKind.i64.wrap ((j : Int) + 1 - 1) = (j : Int) := by
          rw [show (j : Int) + 1 - 1 = (j : Int) by omega]; exact IntWalk.i64_in _ (by omega)
        have hw2 : IntKind.i64.wrap (j : Int) = (j : Int) := IntWalk.i64_in _ (by omega)
        have HSJ := Lib.hid (fun (h : nthI s j < nthI s (j + 1)) => rise_succ HS.out (by rw [Nat.add_sub_cancel]; exact h))
        have HNJ := Lib.hid (fun (h : ¬ nthI s j < nthI s (j + 1)) => HNO.out (fun hh => h (by have := hh.1 (j + 1) (by omega) hlt; rwa [Nat.add_sub_cancel] at this)))
        obtain ⟨p, hp⟩ : ∃ p, p = nthI s j := ⟨_, rfl⟩
        obtain ⟨x, hx⟩ : ∃ x, x = nthI s (j + 1) := ⟨_, rfl⟩
        rw [← hp] at f1 HSJ HNJ
        rw [← hx] at f2 HSJ HNJ
        rw [hm1]
        clear hp hx hm1
        by_cases hxp : x ≤ p
        · have dxp : decide (x ≤ p) = true := decide_eq_true hxp
          have HZ := Lib.hid (HNJ.out (by omega))
          clear HSJ HNJ
          go_wp2_with fail
          go_quiet (fail)
          go_wp2_with fail
          go_ret
          exact ⟨ret_bool HZ.out.symm, below_drewN HB.out _⟩
        · have dxp : decide (x ≤ p) = false := decide_eq_false hxp
          have HN := Lib.hid (HSJ.out (by omega))
          clear HSJ HNJ
          go_wp2_with fail
          go_quiet (fail)
          go_wp2_with fail
          go_roundw
          case rel => exact ⟨j + 1 + 1, by omega, by omega, by go_num, HN, Lib.hid (below_drewN HB.out _)⟩
          case measure => simp [intOf]; omega
      · have hkk : ¬ (k : Int) < (L : Int) := by omega
        obtain rfl : L = k := by omega
        have HZ := Lib.hid (HYES.out HS.out (by omega) s2 HLT.out)
        go_wp2_with fail
        go_ret
        exact ⟨ret_bool HZ.out.symm, HB.out⟩
  · have ds2 : (x0 != 0) = true := by simpa using s2
    have HZ := Lib.hid (HNO.out (fun hh => s2 hh.2.2.1))
    clear HNO HYES
    go_enter Try.func24, Try.ntmps24
    go_wp2_with fail
    go_quiet (fail)
    go_wp2_with fail
    go_ret
    exact ⟨ret_bool HZ.out.symm, below_drewN ((Below.refl _ _).alloc (Nat.le_refl _) _) _⟩
end Go.Proofs.Ytikddknhcfhnbaa
