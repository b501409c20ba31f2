import Derived.Test.YtpcodholllaceaaQ6
import Derived.Deep.RegionHeld3
namespace Go.Proofs.Ytpcodholllaceaa
open Go.RowKit Go.Shelf

theorem powersD_yes {cs : List Nat} (h : allD coefOk cs = true) : powersD cs = (cs.map (pw 4), 0) := by unfold powersD; rw [if_pos h]
theorem powersD_no {cs : List Nat} (h : allD coefOk cs = false) : powersD cs = ([], 230) := by unfold powersD; rw [if_neg (by rw [h]; decide)]
theorem shsTo_at (cs : List Nat) {n i : Nat} (h : i < n) : (shsTo cs n)[i]? = some (i + 1, hor cs (i + 1)) := by
  unfold shsTo
  rw [List.getElem?_map, List.getElem?_range h]
  rfl
set_option maxRecDepth 100000 in
set_option maxHeartbeats 1000000 in
theorem law7 (w : World) (M : Nat → Prop) (v : Value) (xs : List Nat) (h : IsU64 w M v xs) (hx : U64s xs) (hl : xs.length ≤ 140737488355328) (n : Int) (y : Nat) (_hy : y < 18446744073709551616) :
    Calls Try.prog 7 #[v, .int .i64 n, .int .u64 y] w fun e w' => e = .returned (.bool true) ∧ Below w.heap.size w w' := by
  have H := Lib.hid h
  have CS := fun W => Lib.hid (sane_any W)
  have C0 := fun W (hB : Below w.heap.size w W) => Lib.hid (powers_any W M v xs (H.out.below hB) hx)
  have C1 := fun W (hB : Below w.heap.size w W) => Lib.hid (split_any W M v xs (H.out.below hB) n)
  obtain ⟨A, c, rfl, h1, h2, -⟩ := h
  clear hx
  by_cases hbig : 5 < xs.length
  · have hb' : (5 : Int) < (xs.length : Int) := by omega
    go_enter Try.func7, Try.ntmps7
    go_wp2_with fail
    refine (CS _).out.mono ?_
    rintro e w1 ⟨rfl, hb1⟩
    go_wp2_with fail
    go_ret
    exact ⟨rfl, hb1⟩
  · have hb' : ¬ (5 : Int) < (xs.length : Int) := by omega
    by_cases ha : allD coefOk xs = true
    · rw [powersD_yes ha] at C0
      by_cases hn : 1 ≤ n ∧ n ≤ 192
      · obtain ⟨N, rfl⟩ : ∃ N : Nat, n = (N : Int) := ⟨n.toNat, by omega⟩
        rw [splitD_yes ha (by omega) (by omega)] at C1
        obtain ⟨k, hNk⟩ : ∃ k, N = k + 1 := ⟨N - 1, by omega⟩
        have hk : (N : Int) - 1 = (k : Int) := by omega
        have hw : IntKind.u64.wrap (N : Int) = (N : Int) := w64n N (by omega)
        have hne : ((N : Int) != (N : Int)) = false := by simp
        have hn0 : ((N : Int) == 0) = false := by simp; omega
        have hN0 : ¬ (N : Int) = 0 := by omega
        have hkN : (k : Int) < (N : Int) := by omega
        have hk0 : (0 : Int) ≤ (k : Int) := by omega
        have CV := fun W M' v' (hI : IsU64 W M' v' (xs.map (pw 4))) (z : Nat) => Lib.hid (by
          have h9 := verify_any W M' v' _ hI N z
          rw [ver_pw ha (by omega) (by omega)] at h9
          exact h9)
        have HAT := Lib.hid (shsTo_at xs (show k < N by omega))
        have HN := Lib.hid hNk
        obtain ⟨hh, hhe⟩ : ∃ hh, hor xs N = hh := ⟨_, rfl⟩
        rw [hhe] at CV
        have HATN : Hid ((shsTo xs N)[k]? = some (N, hh)) := by rw [← hhe]; show _ = _; rw [HAT.out, ← HN.out]
        clear ha hn hNk hhe HAT
        go_enter Try.func7, Try.ntmps7
        go_wp2_with fail
        refine (CS _).out.mono ?_
        rintro e w1 ⟨rfl, hb1⟩
        have HB1 := Lib.hid hb1
        clear hb1
        go_wp2_with fail
        refine (C0 _ HB1.out).out.mono ?_
        rintro e w2 ⟨v2, rfl, hI2, hb2⟩
        have HB2 := Lib.hid (HB1.out.trans (hb2.mono HB1.out.size))
        have HI2 := Lib.hid hI2
        clear hI2 hb2
        go_wp2_with fail
        refine (C1 _ HB2.out).out.mono ?_
        rintro e w3 ⟨v3, rfl, hI3, hb3⟩
        have HB3 := Lib.hid (HB2.out.trans (hb3.mono HB2.out.size))
        have HI2' := Lib.hid (IsSl.below HI2.out hb3)
        have HI3 := Lib.hid hI3
        obtain ⟨A3, c3, rfl, hc1, hc2, -⟩ := (show IsShs w3 _ v3 (shsTo xs N) from hI3)
        obtain ⟨b, off, rfl, hbl, hck, hck1⟩ := IsShs.at_ (k := k) HI3.out (Below.refl _ _) (by rw [shsTo_len]; have := HN.out; omega)
        have hget : (shsTo xs N)[k]'(by rw [shsTo_len]; have := HN.out; omega) = (N, hh) := by
          have := HATN.out
          rw [List.getElem?_eq_getElem (by rw [shsTo_len]; have := HN.out; omega)] at this
          injection this
        rw [hget] at hck hck1
        rw [shsTo_len] at hc1 ⊢
        dsimp only at hck hck1 ⊢
        clear hI3 hb3 HI2 hget
        go_wp2_with fail
        refine nameW fun W4 hW4 => ?_
        have hk4 : W4.heap[w3.heap.size]? = some (.cells #[.int .u64 (N : Int), .int .u64 (hh : Int)] 36 (0, 0)) := (by rw [hW4.out]; simp only [heap_alloc_if]; rw [if_pos trivial])
        have hB4 : Below w3.heap.size w3 W4 := by rw [hW4.out]; exact (Below.refl w3.heap.size w3).alloc (Nat.le_refl _) _
        have HB4 := Lib.hid (HB3.out.trans (hB4.mono HB3.out.size))
        have HI4 := Lib.hid (IsSl.below HI2'.out hB4)
        clear hW4 hB4 hck hck1
        refine (CV _ _ _ HI4.out hh).out.mono ?_
        rw [decide_eq_true (rfl : hh = hh)]
        rintro e w5 ⟨rfl, hb5⟩
        have k5 := (hb5.block w3.heap.size (lt_heap hk4)).trans hk4
        have HB5 := Lib.hid (HB4.out.trans (hb5.mono HB4.out.size))
        have HI5 := Lib.hid (IsSl.below HI4.out hb5)
        clear hb5 hk4
        have HK := Lib.hid k5
        have e0 := cell_of (j := 0) k5 rfl
        have e1 := cell_of (j := 1) k5 rfl
        have hl5 := lt_heap k5
        have CW := fun W (hB : Below w5.heap.size w5 W) => Lib.hid (CV W _ _ (IsSl.below HI5.out hB) y).out
        have hyh : (decide (y = hh) == ((y : Int) == (hh : Int))) = true := by
          by_cases e : y = hh
          · rw [decide_eq_true e, e]; simp
          · rw [decide_eq_false e]; simp; omega
        generalize decide (y = hh) = d at CW hyh
        clear k5
        go_wp2_with fail
        go_region_held3 (fun w' => w'.cell? ⟨w3.heap.size, 0, none⟩ = some (.int .u64 (N : Int)) ∧ w'.cell? ⟨w3.heap.size, 1, none⟩ = some (.int .u64 (hh : Int))) (first | with_reducible exact ⟨e0, e1⟩ | with_reducible exact ⟨s0, s1⟩ | go_keep) ((go_at_call 20; refine (CW _ (by repeat (first | exact Below.refl _ _ | refine Below.drew ?_))).out.mono ?_; rintro e w9 ⟨rfl, hb9⟩; have hB9 : Below w5.heap.size w5 w9 := Below.trans (by repeat (first | exact Below.refl _ _ | refine Below.drew ?_)) (hb9.mono (by first | exact Nat.le_refl _ | (simp; done))); have s0 := cell_of (j := 0) ((hB9.block w3.heap.size hl5).trans HK.out) rfl; have s1 := cell_of (j := 1) ((hB9.block w3.heap.size hl5).trans HK.out) rfl; have HB9 := Lib.hid hB9; clear hb9 hB9))
        all_goals go_wp2_with fail
        all_goals go_ret
        all_goals exact ⟨by first | rfl | (simp; done) | simpa using hyh, HB5.out.trans (Below.mono (by repeat (first | exact HB9.out | refine Below.drew ?_)) HB5.out.size)⟩
      · rw [splitD_no (fun hh => hn hh.2)] at C1
        clear ha hn
        go_enter Try.func7, Try.ntmps7
        go_wp2_with fail
        refine (CS _).out.mono ?_
        rintro e w1 ⟨rfl, hb1⟩
        have HB1 := Lib.hid hb1
        clear hb1
        go_wp2_with fail
        refine (C0 _ HB1.out).out.mono ?_
        rintro e w2 ⟨v2, rfl, hI2, hb2⟩
        have HB2 := Lib.hid (HB1.out.trans (hb2.mono HB1.out.size))
        clear hb2 hI2
        go_wp2_with fail
        refine (C1 _ HB2.out).out.mono ?_
        rintro e w3 ⟨v3, rfl, hI3, hb3⟩
        have HB3 := Lib.hid (HB2.out.trans (hb3.mono HB2.out.size))
        clear hb3 hI3
        go_wp2_with fail
        go_ret
        exact ⟨rfl, HB3.out⟩
    · have ha : allD coefOk xs = false := by simpa using ha
      rw [powersD_no ha] at C0
      rw [splitD_no (by rw [ha]; simp)] at C1
      clear ha
      go_enter Try.func7, Try.ntmps7
      go_wp2_with fail
      refine (CS _).out.mono ?_
      rintro e w1 ⟨rfl, hb1⟩
      have HB1 := Lib.hid hb1
      clear hb1
      go_wp2_with fail
      refine (C0 _ HB1.out).out.mono ?_
      rintro e w2 ⟨v2, rfl, hI2, hb2⟩
      have HB2 := Lib.hid (HB1.out.trans (hb2.mono HB1.out.size))
      clear hb2 hI2
      go_wp2_with fail
      refine (C1 _ HB2.out).out.mono ?_
      rintro e w3 ⟨v3, rfl, hI3, hb3⟩
      have HB3 := Lib.hid (HB2.out.trans (hb3.mono HB2.out.size))
      clear hb3 hI3
      go_wp2_with fail
      go_ret
      exact ⟨rfl, HB3.out⟩
end Go.Proofs.Ytpcodholllaceaa
