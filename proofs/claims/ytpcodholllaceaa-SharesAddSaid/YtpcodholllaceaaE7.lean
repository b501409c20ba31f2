import Derived.Test.YtpcodholllaceaaE6
namespace Go.Proofs.Ytpcodholllaceaa
open Go.RowKit Go.Shelf

theorem quiet_left {P : Program} {f : FuncId} {args : Array Value} {w : World} {n : Nat} {v : Value}
    (h : Calls P f args (w.drewN n) fun e w' => e = .returned v ∧ w.drewN n = w') : Calls P f args (w.drewN n) fun e w'' => e = .returned v ∧ ∃ m, w'' = w.drewN m :=
  h.mono fun _ _ ⟨he, hm⟩ => ⟨he, n, hm.symm⟩
set_option maxRecDepth 100000 in
theorem refElem_any (c : Nat) (w : World) : Calls Try.prog 55 #[.int .u64 c] w fun e w' => e = .returned (.bool (elOk c)) ∧ w = w' := by
  by_cases h1 : 1 ≤ c
  · have b1 : decide ((1 : Int) ≤ (c : Int)) = true := by simp; omega
    by_cases h2 : c < 2305843009213691579
    · have b2 : decide ((c : Int) < 2305843009213691579) = true := by simp; omega
      have C := Lib.hid (refPow_any c 1152921504606845789 (by decide) w)
      have he : elOk c = (((pw c 1152921504606845789 : Nat) : Int) == 1) := by
        unfold elOk
        rw [decide_eq_true h1, decide_eq_true h2, Bool.eq_iff_iff]
        simp
        omega
      rw [he]
      obtain ⟨z, hz⟩ : ∃ z, pw c 1152921504606845789 = z := ⟨_, rfl⟩
      rw [hz] at C ⊢
      clear h1 h2 he hz
      go_enter Try.func55, Try.ntmps55
      go_wp2_with fail
      refine C.out.mono ?_
      rintro e w' ⟨rfl, rfl⟩
      go_wp2_with fail
      go_ret
      exact ⟨rfl, rfl⟩
    · have b2 : decide ((c : Int) < 2305843009213691579) = false := by simp; omega
      have he : elOk c = false := by unfold elOk; rw [decide_eq_false h2]; simp
      rw [he]
      clear h1 h2 he
      go_enter Try.func55, Try.ntmps55
      go_wp2_with fail
      go_ret
      exact ⟨rfl, rfl⟩
  · have b1 : decide ((1 : Int) ≤ (c : Int)) = false := by simp; omega
    have he : elOk c = false := by unfold elOk; rw [decide_eq_false h1]; simp
    rw [he]
    clear h1 he
    go_enter Try.func55, Try.ntmps55
    go_wp2_with fail
    go_ret
    exact ⟨rfl, rfl⟩
theorem lenOk_yes {n : Nat} (h1 : 1 ≤ n) (h2 : n ≤ 24) : lenOk n = true := by unfold lenOk; rw [decide_eq_true h1, decide_eq_true h2]; rfl
theorem all_no_len (ok : Nat → Bool) {xs : List Nat} (h : ¬ (1 ≤ xs.length ∧ xs.length ≤ 24)) : allD ok xs = false := by
  unfold allD lenOk
  rcases Nat.lt_or_ge xs.length 1 with h4 | h4
  · rw [decide_eq_false (by omega)]; rfl
  · rw [decide_eq_false (p := xs.length ≤ 24) (by omega), Bool.and_false]; rfl
theorem all_yes (ok : Nat → Bool) {xs : List Nat} (h1 : 1 ≤ xs.length) (h2 : xs.length ≤ 24) (h : upTo ok xs xs.length) : allD ok xs = true := by
  unfold allD; rw [lenOk_yes h1 h2, upTo_all h]; rfl
set_option maxRecDepth 100000 in
theorem refChecks_any (w : World) (M : Nat → Prop) (v : Value) (xs : List Nat) (h : IsU64 w M v xs) :
    Calls Try.prog 40 #[v] w fun e w' => e = .returned (.bool (allD elOk xs)) ∧ w = w' := by
  have H := Lib.hid h
  obtain ⟨A, c, rfl, h1, h2, -⟩ := h
  by_cases g1 : 1 ≤ xs.length
  · by_cases g2 : xs.length ≤ 24
    · have b1 : ¬ (xs.length : Int) < 1 := by omega
      have b2 : ¬ (24 : Int) < (xs.length : Int) := by omega
      go_enter Try.func40, Try.ntmps40
      go_wp2_with fail
      go_loop [3] (fun i => ∃ k : Nat, k ≤ xs.length ∧ i = .int .i64 k ∧ Hid (upTo elOk xs k)) (fun i => xs.length - (intOf i).toNat)
      case atStart => exact ⟨0, Nat.zero_le _, rfl, Lib.hid upTo_zero⟩
      case round =>
        obtain ⟨k, hk, rfl, HU⟩ := hrel
        by_cases hlt : k < xs.length
        · obtain ⟨b, off, rfl, hbl, hck⟩ := H.out.at_ (Below.refl _ _) hlt
          have hlt' : (k : Int) < (xs.length : Int) := by omega
          have C := Lib.hid (refElem_any xs[k] w)
          obtain ⟨bo, hbo⟩ : ∃ bo, elOk xs[k] = bo := ⟨_, rfl⟩
          rw [hbo] at C
          cases bo with
          | true =>
            have HS := Lib.hid (upTo_succ HU.out hlt hbo)
            clear hbo
            go_wp2_with fail
            refine C.out.mono ?_
            rintro e w' ⟨rfl, rfl⟩
            go_wp2_with fail
            go_round
            case rel => exact ⟨k + 1, by omega, by go_num, HS⟩
            case measure => simp [intOf]; omega
          | false =>
            have HA := Lib.hid (all_not elOk hlt hbo)
            clear hbo
            go_wp2_with fail
            refine C.out.mono ?_
            rintro e w' ⟨rfl, rfl⟩
            go_wp2_with fail
            go_ret
            exact ⟨by rw [HA.out]; rfl, rfl⟩
        · have hkk : k = xs.length := by omega
          subst hkk
          have HA := Lib.hid (all_yes elOk g1 g2 HU.out)
          have hnl : ¬ (xs.length : Int) < (xs.length : Int) := by omega
          go_wp2_with fail
          go_ret
          exact ⟨by rw [HA.out]; rfl, rfl⟩
    · have b1 : ¬ (xs.length : Int) < 1 := by omega
      have b2 : (24 : Int) < (xs.length : Int) := by omega
      rw [all_no_len elOk (by omega)]
      go_enter Try.func40, Try.ntmps40
      go_wp2_with fail
      go_ret
      exact ⟨rfl, rfl⟩
  · have b1 : (xs.length : Int) < 1 := by omega
    rw [all_no_len elOk (by omega)]
    go_enter Try.func40, Try.ntmps40
    go_wp2_with fail
    go_ret
    exact ⟨rfl, rfl⟩
theorem hor_drop {xs : List Nat} {r : Nat} (h : r < xs.length) (x : Nat) : hor (xs.drop r) x = (hor (xs.drop (r + 1)) x * x % 1152921504606845789 + xs[r]) % 1152921504606845789 := by
  rw [List.drop_eq_getElem_cons h]
  unfold hor
  rw [List.foldr_cons]
theorem horlt (cs : List Nat) (x : Nat) : hor cs x < 1152921504606845789 := by
  cases cs with
  | nil => exact (by decide : (0 : Nat) < 1152921504606845789)
  | cons c r => exact Nat.mod_lt _ (by decide)
theorem value_any (w : World) (M : Nat → Prop) (v : Value) (xs : List Nat) (h : IsU64 w M v xs) (hl : xs.length ≤ 140737488355328) (hc : ∀ c ∈ xs, c < 1152921504606845789) (x : Nat) (hx : x < 1152921504606845789) :
    Calls Try.prog 34 #[v, .int .u64 x] w fun e w' => e = .returned (.int .u64 ((hor xs x : Nat) : Int)) ∧ ∃ n, w' = w.drewN n := by
  have H := Lib.hid h
  have HC := Lib.hid hc
  obtain ⟨A, c, rfl, h1, h2, -⟩ := h
  have e2 : Int.tmod (x : Int) 1152921504606845789 = (x : Int) := by
    have : Int.tmod (x : Int) ((1152921504606845789 : Nat) : Int) = ((x % 1152921504606845789 : Nat) : Int) := rfl
    rw [Nat.mod_eq_of_lt hx] at this
    exact this
  have HX := Lib.hid hx
  have HZ := Lib.hid (show hor (xs.drop xs.length) x = 0 by rw [List.drop_length]; rfl)
  clear hx hc
  go_enter Try.func34, Try.ntmps34
  go_wp2_with fail
  go_loopw [5, 6] (fun y i wr => ∃ q : Nat, q ≤ xs.length ∧ i = .int .i64 ((q : Int) - 1) ∧ y = .int .u64 ((hor (xs.drop q) x : Nat) : Int) ∧ Hid (Drn w wr)) (fun _ i _ => ((intOf i) + 1).toNat)
  case atStart => exact ⟨xs.length, Nat.le_refl _, rfl, by rw [HZ.out]; rfl, Lib.hid (Drn.refl _)⟩
  case round =>
    obtain ⟨q, hq, he, rfl, HD⟩ := hrel
    cases q with
    | zero =>
      subst he
      go_wp2_with fail
      go_ret
      exact ⟨rfl, HD.out⟩
    | succ r =>
      have he' : u6 = .int .i64 (r : Int) := by rw [he]; congr 1; omega
      clear he
      subst he'
      have hb := drn_below HD.out
      obtain ⟨b, off, rfl, hbl, hck⟩ := H.out.at_ hb (show r < xs.length by omega)
      have hlt' : (r : Int) < (xs.length : Int) := by omega
      have hr0 : (0 : Int) ≤ (r : Int) := by omega
      have HS := Lib.hid (hor_drop (show r < xs.length by omega) x)
      have hcr := HC.out _ (List.getElem_mem (show r < xs.length by omega))
      have C1 := fun W => Lib.hid (times_any (hor (xs.drop (r + 1)) x) x 1152921504606845789 (horlt _ _) (Nat.lt_trans HX.out (by decide)) (by decide) W)
      obtain ⟨z, hz⟩ : ∃ z, hor (xs.drop (r + 1)) x * x % 1152921504606845789 = z := ⟨_, rfl⟩
      have hzl : z < 1152921504606845789 := by rw [← hz]; exact Nat.mod_lt _ (by decide)
      rw [hz] at C1 HS
      have C2 := fun W => Lib.hid (plus_any z xs[r] 1152921504606845789 (by omega) (by decide) W)
      rw [← HS.out] at C2
      clear hz hzl hcr hb
      go_wp2_with fail
      go_quiet ((first | (go_at_call 42; exact quiet_left (C1 _).out) | (go_at_call 48; exact quiet_left (C2 _).out)))
      go_wp2_with fail
      go_roundw
      case rel => exact ⟨r, by omega, rfl, rfl, Lib.hid (HD.out.drewN _)⟩
      case measure => simp [intOf]
end Go.Proofs.Ytpcodholllaceaa
