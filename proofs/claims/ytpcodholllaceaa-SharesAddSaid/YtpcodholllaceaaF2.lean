import Derived.Test.YtpcodholllaceaaF1
import Derived.Test.YtpcodholllaceaaX3
namespace Go.Proofs.Ytpcodholllaceaa
open Go.RowKit Go.Shelf

theorem rem_lit (a q : Nat) : Int.tmod (a : Int) (q : Int) = ((a % q : Nat) : Int) ∧ (a : Int) % (q : Int) = ((a % q : Nat) : Int) := ⟨rfl, rfl⟩
set_option maxRecDepth 100000 in
theorem Plus_any (a b : Nat) (w : World) : Calls Try.prog 25 #[.int .u64 a, .int .u64 b] w fun e w' => e = .returned (.int .u64 ((plusQ a b : Nat) : Int)) ∧ w = w' := by
  have ha := Nat.mod_lt a (show 0 < 1152921504606845789 by decide)
  have hb := Nat.mod_lt b (show 0 < 1152921504606845789 by decide)
  have C := Lib.hid (plus_any (a % 1152921504606845789) (b % 1152921504606845789) 1152921504606845789 (by omega) (by decide) w)
  rw [show (a % 1152921504606845789 + b % 1152921504606845789) % 1152921504606845789 = plusQ a b from rfl] at C
  obtain ⟨a1, a2⟩ := rem_lit a 1152921504606845789
  obtain ⟨b1, b2⟩ := rem_lit b 1152921504606845789
  obtain ⟨z, hz⟩ : ∃ z, plusQ a b = z := ⟨_, rfl⟩
  rw [hz] at C ⊢
  obtain ⟨a', ha'⟩ : ∃ z, a % 1152921504606845789 = z := ⟨_, rfl⟩
  obtain ⟨b', hb'⟩ : ∃ z, b % 1152921504606845789 = z := ⟨_, rfl⟩
  rw [ha'] at C a1 a2
  rw [hb'] at C b1 b2
  have k1 : Int.tmod (a : Int) 1152921504606845789 = (a' : Int) := a1
  have k2 : (a : Int) % 1152921504606845789 = (a' : Int) := a2
  have k3 : Int.tmod (b : Int) 1152921504606845789 = (b' : Int) := b1
  have k4 : (b : Int) % 1152921504606845789 = (b' : Int) := b2
  clear hz ha hb ha' hb' a1 a2 b1 b2
  go_enter Try.func25, Try.ntmps25
  go_wp2_with fail
  refine C.out.mono ?_
  rintro e w' ⟨rfl, rfl⟩
  go_wp2_with fail
  go_ret
  exact ⟨rfl, rfl⟩
set_option maxRecDepth 100000 in
theorem Times_any (a b : Nat) (w : World) : Calls Try.prog 27 #[.int .u64 a, .int .u64 b] w fun e w' => e = .returned (.int .u64 ((timesQ a b : Nat) : Int)) ∧ w = w' := by
  have ha := Nat.mod_lt a (show 0 < 1152921504606845789 by decide)
  have hb := Nat.mod_lt b (show 0 < 1152921504606845789 by decide)
  have C := Lib.hid (times_any (a % 1152921504606845789) (b % 1152921504606845789) 1152921504606845789 ha (Nat.lt_trans hb (by decide)) (by decide) w)
  rw [show (a % 1152921504606845789) * (b % 1152921504606845789) % 1152921504606845789 = timesQ a b from rfl] at C
  obtain ⟨a1, a2⟩ := rem_lit a 1152921504606845789
  obtain ⟨b1, b2⟩ := rem_lit b 1152921504606845789
  obtain ⟨z, hz⟩ : ∃ z, timesQ a b = z := ⟨_, rfl⟩
  rw [hz] at C ⊢
  obtain ⟨a', ha'⟩ : ∃ z, a % 1152921504606845789 = z := ⟨_, rfl⟩
  obtain ⟨b', hb'⟩ : ∃ z, b % 1152921504606845789 = z := ⟨_, rfl⟩
  rw [ha'] at C a1 a2
  rw [hb'] at C b1 b2
  have k1 : Int.tmod (a : Int) 1152921504606845789 = (a' : Int) := a1
  have k2 : (a : Int) % 1152921504606845789 = (a' : Int) := a2
  have k3 : Int.tmod (b : Int) 1152921504606845789 = (b' : Int) := b1
  have k4 : (b : Int) % 1152921504606845789 = (b' : Int) := b2
  clear hz ha hb ha' hb' a1 a2 b1 b2
  go_enter Try.func27, Try.ntmps27
  go_wp2_with fail
  refine C.out.mono ?_
  rintro e w' ⟨rfl, rfl⟩
  go_wp2_with fail
  go_ret
  exact ⟨rfl, rfl⟩
/-- x + y modulo P, as the walk has it -/
theorem addP {x y : Nat} (hx : x < 2305843009213691579) (hy : y < 2305843009213691579) : ∃ s r : Nat, IntKind.u64.wrap ((x : Int) + (y : Int)) = (s : Int) ∧ Int.tmod (s : Int) 2305843009213691579 = (r : Int) ∧ (s : Int) % 2305843009213691579 = (r : Int) ∧ (x + y) % 2305843009213691579 = r :=
  ⟨x + y, (x + y) % 2305843009213691579, wn (by omega) (by omega), (rem_lit _ _).1, (rem_lit _ _).2, rfl⟩
set_option maxRecDepth 100000 in
theorem product_any (a0 b0 : Nat) (w : World) : Calls Try.prog 26 #[.int .u64 a0, .int .u64 b0] w fun e w' => e = .returned (.int .u64 ((a0 * b0 % 2305843009213691579 : Nat) : Int)) ∧ w = w' := by
  obtain ⟨S, hS⟩ : ∃ S, a0 * b0 % 2305843009213691579 = S := ⟨_, rfl⟩
  rw [hS]
  have h0 : Tst S 2305843009213691579 0 (a0 % 2305843009213691579) (b0 % 2305843009213691579) := ⟨by rw [Nat.zero_add, ← Nat.mul_mod]; exact hS, Nat.mod_lt _ (by decide), by decide, Nat.lt_trans (Nat.mod_lt _ (by decide)) (by decide : 2305843009213691579 < 18446744073709551616)⟩
  obtain ⟨a1, a2⟩ := rem_lit a0 2305843009213691579
  obtain ⟨b1, b2⟩ := rem_lit b0 2305843009213691579
  obtain ⟨a', ha'⟩ : ∃ z, a0 % 2305843009213691579 = z := ⟨_, rfl⟩
  obtain ⟨b', hb'⟩ : ∃ z, b0 % 2305843009213691579 = z := ⟨_, rfl⟩
  rw [ha'] at h0 a1 a2
  rw [hb'] at h0 b1 b2
  have k1 : Int.tmod (a0 : Int) 2305843009213691579 = (a' : Int) := a1
  have k2 : (a0 : Int) % 2305843009213691579 = (a' : Int) := a2
  have k3 : Int.tmod (b0 : Int) 2305843009213691579 = (b' : Int) := b1
  have k4 : (b0 : Int) % 2305843009213691579 = (b' : Int) := b2
  have H0 := Lib.hid h0
  clear hS ha' hb' a1 a2 b1 b2 h0
  go_enter Try.func26, Try.ntmps26
  go_wp2_with fail
  clear k1 k2 k3 k4
  go_loop [0, 1, 5] (fun sa sb sx => ∃ x a b : Nat, sa = .int .u64 a ∧ sb = .int .u64 b ∧ sx = .int .u64 x ∧ Hid (Tst S 2305843009213691579 x a b)) (fun _ sb _ => (intOf sb).toNat)
  case atStart => exact ⟨0, a', b', rfl, rfl, rfl, H0⟩
  case round =>
    obtain ⟨x, a, b, rfl, rfl, rfl, HR⟩ := hrel
    by_cases hb0 : b = 0
    · subst hb0
      go_wp2_with fail
      go_ret
      have h := HR.out.val
      have h2 : x = S := by rw [Nat.mul_zero, Nat.add_zero, Nat.mod_eq_of_lt HR.out.x_lt] at h; exact h
      exact ⟨by rw [h2]; rfl, rfl⟩
    · obtain ⟨s1, y, u1, u2, u3, hy⟩ := addP HR.out.x_lt HR.out.a_lt
      obtain ⟨s2, c, u4, u5, u6, hc⟩ := addP HR.out.a_lt HR.out.a_lt
      have hp : (0 : Int) < (b : Int) := by omega
      have HB := Lib.hid hb0
      have hb2 : IntKind.u64.wrap ((b : Int) / 2) = ((b / 2 : Nat) : Int) := wn (by omega) (half64 HR.out.b_lt)
      by_cases ho : b % 2 = 1
      · have HP := Lib.hid (HR.out.odd ho)
        rw [hy, hc] at HP
        have ho1 : (b : Int) % 2 = 1 := by omega
        clear ho hy hc hb0
        go_wp2_with fail
        go_round
        case rel => exact ⟨y, c, b / 2, rfl, rfl, rfl, HP⟩
        case measure => have := HB.out; simp [intOf]; omega
      · have HP := Lib.hid (HR.out.even (by omega))
        rw [hc] at HP
        have ho1 : (b : Int) % 2 = 0 := by omega
        clear ho hy hc hb0
        go_wp2_with fail
        go_round
        case rel => exact ⟨x, c, b / 2, rfl, rfl, rfl, HP⟩
        case measure => have := HB.out; simp [intOf]; omega
set_option maxHeartbeats 1000000 in
theorem chosen_any (w : World) (M : Nat → Prop) (v : Value) (l : List (Nat × Nat)) (h : IsShs w M v l) (m : Nat) :
    Calls Try.prog 24 #[v, .int .u32 m] w fun e w' => ∃ v' r, e = .returned v' ∧ List.Sublist r l ∧ IsShs w' (fun b => w.heap.size ≤ b) v' r ∧ Below w.heap.size w w' := by
  have H := Lib.hid h
  obtain ⟨A, c, rfl, h1, h2, -⟩ := h
  obtain ⟨iu, hiu, hz0, hz1, hz2⟩ := info_parts Try.info_sh
  have HIU := Lib.hid (And.intro hiu (And.intro hz0 (And.intro hz1 hz2)))
  clear hiu hz0 hz1 hz2
  go_enter Try.func24, Try.ntmps24
  go_wp2_with fail
  have HE : Hid ((w.alloc (.cells #[] 36)).ownsRow w.heap.size 36 2 (.slice (some ⟨w.heap.size, 0, none⟩) 0 0) 0 []) := own_empty (by rw [heap_alloc_if, if_pos rfl]) (Nat.le_refl _)
  go_loopw [5, 6] (fun v i wr => ∃ (k : Nat) (r : List (Nat × Nat)), k ≤ l.length ∧ i = .int .i64 k ∧ Hid (List.Sublist r (l.take k)) ∧ Hid (wr.ownsRow w.heap.size 36 2 v r.length (rowS r)) ∧ Hid (Below w.heap.size w wr)) (fun _ i _ => l.length - (intOf i).toNat)
  case atStart => exact ⟨0, [], Nat.zero_le _, rfl, Lib.hid (List.nil_sublist _), HE, Lib.hid ((Below.refl _ _).alloc (Nat.le_refl _) _)⟩
  case round =>
    obtain ⟨k, r, hk, rfl, HSU, HO, HB⟩ := hrel
    by_cases hlt : k < l.length
    · have hlt' : (k : Int) < (l.length : Int) := by omega
      by_cases h32 : k < 32
      · have h32' : (k : Int) < 32 := by omega
        obtain ⟨b, off, rfl, hbl, hck, hck1⟩ := H.out.at_ HB.out hlt
        have hk0 : (0 : Int) ≤ (k : Int) := by omega
        have HNO : Hid (List.Sublist r (l.take (k + 1))) := by
          rw [List.take_succ_eq_append_getElem hlt]; exact HSU.out.trans (List.sublist_append_left _ _)
        have HYES : Hid (List.Sublist (r ++ [(l[k].1, l[k].2)]) (l.take (k + 1))) := by
          rw [List.take_succ_eq_append_getElem hlt]; exact HSU.out.append (List.Sublist.refl _)
        have hrl : r.length ≤ k := Nat.le_trans HSU.out.length_le (List.length_take_le _ _)
        have MS := Lib.hid (rowS_snoc r (l[k].1, l[k].2))
        generalize l[k].1 = X at *
        generalize l[k].2 = Y at *
        have hsq := HB.out.size
        go_wp2_with (at_builtin; refine wpList_append_cells _ rfl _ _ 28 rfl w.heap.size 36 iu (.agg #[.int .u64 0, .int .u64 0]) 2 16 Try.underlying28 HIU.out.1 HIU.out.2.1 HIU.out.2.2.1 HIU.out.2.2.2 rfl (by decide) _ r.length _ rfl (HO.out.alloc _) (some ⟨wr.heap.size, 0, none⟩) 1 1 [u64v X, u64v Y] rfl rfl ?c1 ?c2 ?c3 ?c4 ?c5 ?_)
        case c1 => first | exact fun _ => ⟨_, rfl, cell_two_new _ _ _ _⟩ | exact fun _ _ h => h
        case c2 => first | exact two_u64 _ _ | exact ⟨rfl, rfl⟩
        case c3 => unfold maxLen; omega
        case c4 => omega
        case c5 => first | omega | (simp; omega)
        · intro v7 w7 hown7 hgrow7 _
          rw [MS.out] at hown7
          have HO7 := Lib.hid hown7
          have HB7 := Lib.hid ((HB.out.alloc hsq _).grown hgrow7 (by simp; omega) (own_base HO.out))
          clear hown7 hgrow7
          go_wp2_with fail
          go_roundw
          case rel => exact ⟨k + 1, r ++ [(X, Y)], by omega, by go_num, HYES, Lib.hid (by rw [List.length_append]; exact HO7.out), HB7⟩
          case measure => simp [intOf]; omega
        · go_roundw
          case rel => exact ⟨k + 1, r, by omega, by go_num, HNO, HO, HB⟩
          case measure => simp [intOf]; omega
      · have h32' : ¬ (k : Int) < 32 := by omega
        have HS := Lib.hid (HSU.out.trans (List.take_sublist _ _))
        go_wp2_with fail
        go_ret
        exact ⟨_, rfl, r, HS.out, IsShs.ofOwn HO.out, HB.out⟩
    · have hnl : ¬ (k : Int) < (l.length : Int) := by omega
      have HS := Lib.hid (HSU.out.trans (List.take_sublist _ _))
      go_wp2_with fail
      go_ret
      exact ⟨_, rfl, r, HS.out, IsShs.ofOwn HO.out, HB.out⟩
end Go.Proofs.Ytpcodholllaceaa
