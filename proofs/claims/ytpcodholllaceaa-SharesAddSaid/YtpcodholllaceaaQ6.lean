import Derived.Test.YtpcodholllaceaaF2
namespace Go.Proofs.Ytpcodholllaceaa
open Go.RowKit Go.Shelf

theorem nice_of_pair {l : List (Nat × Nat)} (h : ∀ s ∈ l, s.1 < 1152921504606845789) (hp : l.Pairwise (fun a b => a.1 ≠ b.1)) : Nice l := by
  refine ⟨h, fun i j hi hj hij => ?_⟩
  rw [List.getD_eq_getElem?_getD, List.getD_eq_getElem?_getD, List.getElem?_eq_getElem hi, List.getElem?_eq_getElem hj]
  rw [List.pairwise_iff_getElem] at hp
  rcases Nat.lt_or_gt_of_ne hij with h1 | h1
  · exact hp i j hi hj h1
  · exact fun e => hp j i hj hi h1 e.symm
theorem shsTo_pair (cs : List Nat) (n : Nat) : (shsTo cs n).Pairwise (fun a b => a.1 ≠ b.1) := by
  unfold shsTo
  rw [List.pairwise_map]
  exact List.pairwise_lt_range.imp fun h => by show _ + 1 ≠ _ + 1; omega
theorem shsTo_mem {cs : List Nat} {n : Nat} {s : Nat × Nat} (h : s ∈ shsTo cs n) : 1 ≤ s.1 ∧ s.1 ≤ n ∧ s.2 = hor cs s.1 := by
  unfold shsTo at h
  rw [List.mem_map] at h
  obtain ⟨i, hi, rfl⟩ := h
  rw [List.mem_range] at hi
  exact ⟨by show 1 ≤ i + 1; omega, by show i + 1 ≤ n; omega, rfl⟩
theorem join_sub {cs : List Nat} {n : Nat} {r : List (Nat × Nat)} (hr : List.Sublist r (shsTo cs n)) (hn : n ≤ 192) (h1 : 1 ≤ cs.length) (h2 : cs.length ≤ 24) : joinD r (cs.length : Int) = if r.length < cs.length then (0, 230) else (hor cs 0, 0) := by
  have hm : ∀ s ∈ r, 1 ≤ s.1 ∧ s.1 ≤ 192 ∧ s.2 = hor cs s.1 := fun s hs => by
    have := shsTo_mem (hr.subset hs)
    exact ⟨this.1, by omega, this.2.2⟩
  refine join_hor (nice_of_pair (fun s hs => Nat.lt_of_le_of_lt (hm s hs).2.1 (by decide)) ((shsTo_pair cs n).sublist hr)) h1 h2 (fun s hs => ?_) (fun s hs => (hm s hs).2.2)
  unfold shOk
  rw [decide_eq_true (hm s hs).1, decide_eq_true (hm s hs).2.1, decide_eq_true (by rw [(hm s hs).2.2]; exact horlt _ _ : s.2 < 1152921504606845789)]
  rfl
set_option maxRecDepth 100000 in
set_option maxHeartbeats 1000000 in
theorem law6 (w : World) (M : Nat → Prop) (v : Value) (xs : List Nat) (h : IsU64 w M v xs) (_hx : U64s xs) (hl : xs.length ≤ 140737488355328) (n : Int) (m : Nat) (_hm : m < 4294967296) :
    Calls Try.prog 6 #[v, .int .i64 n, .int .u32 m] w fun e w' => e = .returned (.bool true) ∧ Below w.heap.size w w' := by
  have H := Lib.hid h
  have CS := fun W => Lib.hid (sane_any W)
  have C1 := fun W (hB : Below w.heap.size w W) => Lib.hid (split_any W M v xs (H.out.below hB) n)
  obtain ⟨A, c, rfl, h1, h2, -⟩ := h
  by_cases hbig : 5 < xs.length
  · have hb' : decide ((5 : Int) < (xs.length : Int)) = true := by simp; omega
    go_enter Try.func6, Try.ntmps6
    go_wp2_with fail
    refine (CS _).out.mono ?_
    rintro e w1 ⟨rfl, hb1⟩
    go_wp2_with fail
    go_ret
    exact ⟨rfl, hb1⟩
  · have hb' : decide ((5 : Int) < (xs.length : Int)) = false := by simp; omega
    by_cases hn12 : 12 < n
    · go_enter Try.func6, Try.ntmps6
      go_wp2_with fail
      refine (CS _).out.mono ?_
      rintro e w1 ⟨rfl, hb1⟩
      go_wp2_with fail
      go_ret
      exact ⟨rfl, hb1⟩
    · have hn12' : ¬ (12 < n) := hn12
      by_cases hy : allD coefOk xs = true ∧ 1 ≤ n ∧ n ≤ 192
      · obtain ⟨N, rfl⟩ : ∃ N : Nat, n = (N : Int) := ⟨n.toNat, by omega⟩
        rw [splitD_yes hy.1 (by omega) (by omega)] at C1
        have hal := all_mem hy.1
        have hne : ((N : Int) != (N : Int)) = false := by simp
        have hx0 : 0 < xs.length := hal.1
        have hz : hor xs 0 = xs[0] := by
          have hc := of_decide_eq_true (hal.2.2 _ (List.getElem_mem hx0))
          rcases xs with _ | ⟨c0, r⟩
          · simp at hx0
          · exact hor_zero hc
        have CJ := fun W M' v' r (hr : List.Sublist r (shsTo xs N)) (hI : IsShs W M' v' r) => Lib.hid (by
          have h9 := join_any W M' v' r hI (by have := hr.length_le; rw [shsTo_len] at this; omega) (xs.length : Int)
          rw [join_sub hr (by omega) hal.1 hal.2.1, hz] at h9
          exact h9)
        have HZ := Lib.hid hz
        have hx1 : ¬ (xs.length : Int) = 0 := by omega
        clear hy hal hz
        go_enter Try.func6, Try.ntmps6
        go_wp2_with fail
        refine (CS _).out.mono ?_
        rintro e w1 ⟨rfl, hb1⟩
        have HB1 := Lib.hid hb1
        clear hb1
        go_wp2_with fail
        refine (C1 _ HB1.out).out.mono ?_
        rintro e w2 ⟨v2, rfl, hI2, hb2⟩
        have HB2 := Lib.hid (HB1.out.trans (hb2.mono HB1.out.size))
        have HI2 := Lib.hid hI2
        obtain ⟨A2, c2, rfl, hc1, hc2, -⟩ := (show IsShs w2 _ v2 (shsTo xs N) from hI2)
        have CC := Lib.hid (chosen_any w2 _ _ _ HI2.out m)
        rw [shsTo_len] at hc1 CC ⊢
        clear hI2 hb2
        go_wp2_with fail
        refine CC.out.mono ?_
        rintro e w3 ⟨v3, r, rfl, hsub, hI3, hb3⟩
        have HB3 := Lib.hid (HB2.out.trans (hb3.mono HB2.out.size))
        have CJ' := Lib.hid ((CJ w3 _ v3 r hsub hI3).out)
        obtain ⟨A3, c3, rfl, hd1, hd2, -⟩ := (show IsShs w3 _ v3 r from hI3)
        clear hsub hI3 hb3 CJ
        by_cases hlt : r.length < xs.length
        · rw [if_pos hlt] at CJ'
          have hlt' : (r.length : Int) < (xs.length : Int) := by omega
          go_wp2_with fail
          refine CJ'.out.mono ?_
          rintro e w4 ⟨rfl, hb4⟩
          have HB4 := Lib.hid (HB3.out.trans (hb4.mono HB3.out.size))
          clear hb4
          go_wp2_with fail
          go_ret
          exact ⟨rfl, HB4.out⟩
        · rw [if_neg hlt] at CJ'
          have hlt' : ¬ (r.length : Int) < (xs.length : Int) := by omega
          obtain ⟨z, hzz⟩ : ∃ z, xs[0] = z := ⟨_, rfl⟩
          go_wp2_with fail
          refine CJ'.out.mono ?_
          rintro e w4 ⟨rfl, hb4⟩
          have HB4 := Lib.hid (HB3.out.trans (hb4.mono HB3.out.size))
          obtain ⟨b, off, rfl, hbl, hck⟩ := H.out.at_ HB4.out hx0
          rw [Nat.add_zero] at hck
          clear hb4
          go_wp2_with fail
          go_ret
          exact ⟨by simp, HB4.out⟩
      · rw [splitD_no hy] at C1
        clear hy
        go_enter Try.func6, Try.ntmps6
        go_wp2_with fail
        refine (CS _).out.mono ?_
        rintro e w1 ⟨rfl, hb1⟩
        have HB1 := Lib.hid hb1
        clear hb1
        go_wp2_with fail
        refine (C1 _ HB1.out).out.mono ?_
        rintro e w2 ⟨v2, rfl, hI2, hb2⟩
        have HB2 := Lib.hid (HB1.out.trans (hb2.mono HB1.out.size))
        obtain ⟨A2, c2, rfl, hc1, hc2, -⟩ := (show IsShs w2 _ v2 [] from hI2)
        clear hI2 hb2
        go_wp2_with fail
        go_ret
        exact ⟨by simp, HB2.out⟩
end Go.Proofs.Ytpcodholllaceaa
