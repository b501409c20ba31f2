import Derived.Test.YtpcodholllaceaaE12
namespace Go.Proofs.Ytpcodholllaceaa
open Go.RowKit Go.Shelf

theorem verD_no {cs : List Nat} {s : Nat × Nat} (h : ¬ (allD elOk cs = true ∧ shOk s = true)) : verD cs s = false := by
  unfold verD
  cases h1 : allD elOk cs <;> cases h2 : shOk s <;> simp_all
theorem verify_any (w : World) (M : Nat → Prop) (v : Value) (cs : List Nat) (h : IsU64 w M v cs) (x y : Nat) :
    Calls Try.prog 20 #[v, .agg #[.int .u64 x, .int .u64 y]] w fun e w' => e = .returned (.bool (verD cs (x, y))) ∧ Below w.heap.size w w' := by
  by_cases hy : allD elOk cs = true ∧ shOk (x, y) = true
  · exact verify_go w M v cs h x y hy.1 hy.2
  · rw [verD_no hy]
    have CA := fun W (hB : Below w.heap.size w W) => Lib.hid (all_any asks_elem W M v cs (h.below hB))
    have CI := fun W => Lib.hid (isShare_any x y W)
    obtain ⟨A, c, rfl, h1, h2, -⟩ := h
    by_cases ha : allD elOk cs = true
    · rw [ha] at CA
      rw [show shOk (x, y) = false by simpa [ha] using hy] at CI
      clear hy ha
      go_enter Try.func20, Try.ntmps20
      go_wp2_with fail
      refine nameW fun W1 hW1 => ?_
      have hB1 : Below w.heap.size w W1 := by rw [hW1.out]; exact (Below.refl w.heap.size w).alloc (Nat.le_refl _) _
      have k0 : W1.heap[w.heap.size]? = some (.cells #[.int .u64 x, .int .u64 y] 36 (0, 0)) := (by rw [hW1.out]; simp only [heap_alloc_if]; rw [if_pos trivial])
      refine (CA _ hB1).out.mono ?_
      rintro e w1 ⟨rfl, hb1⟩
      have hF1 := hB1.trans (hb1.mono hB1.size)
      have K0 := (hb1.block w.heap.size (lt_heap k0)).trans k0
      clear hb1 hB1 k0 hW1
      have e0 := cell_of (j := 0) K0 rfl
      have e1 := cell_of (j := 1) K0 rfl
      have HF1 := Lib.hid hF1
      clear hF1 K0
      go_wp2_with fail
      refine (CI _).out.mono ?_
      rintro e w2 ⟨rfl, hb2⟩
      have HF2 := Lib.hid (HF1.out.trans (hb2.mono HF1.out.size))
      clear hb2 e0 e1
      go_wp2_with fail
      go_ret
      exact ⟨rfl, HF2.out⟩
    · rw [show allD elOk cs = false by simpa using ha] at CA
      clear hy ha
      go_enter Try.func20, Try.ntmps20
      go_wp2_with fail
      refine nameW fun W1 hW1 => ?_
      have hB1 : Below w.heap.size w W1 := by rw [hW1.out]; exact (Below.refl w.heap.size w).alloc (Nat.le_refl _) _
      refine (CA _ hB1).out.mono ?_
      rintro e w1 ⟨rfl, hb1⟩
      have HF1 := Lib.hid (hB1.trans (hb1.mono hB1.size))
      clear hb1 hB1 hW1
      go_wp2_with fail
      go_ret
      exact ⟨rfl, HF1.out⟩
set_option maxHeartbeats 1000000 in
theorem refVerify_any (w : World) (M : Nat → Prop) (v : Value) (cs : List Nat) (h : IsU64 w M v cs) (x y : Nat) :
    Calls Try.prog 21 #[v, .agg #[.int .u64 x, .int .u64 y]] w fun e w' => e = .returned (.bool (verD cs (x, y))) ∧ Below w.heap.size w w' := by
  have CA := fun W (hB : Below w.heap.size w W) => Lib.hid (refChecks_any W M v cs (h.below hB))
  have CI := fun W => Lib.hid (valid_any x y W)
  by_cases hy : allD elOk cs = true ∧ shOk (x, y) = true
  · have H := Lib.hid h
    obtain ⟨A, c, rfl, h1, h2, -⟩ := h
    obtain ⟨hx1, hx2, hyQ⟩ := shOk_lt hy.2
    have hv : verD cs (x, y) = (((pw 4 y : Nat) : Int) == ((prF cs x (List.range cs.length) : Nat) : Int)) := by
      unfold verD
      rw [hy.1, hy.2, prF_ver, Bool.eq_iff_iff]
      simp
      omega
    rw [hv]
    have HLE : Hid (cs.length ≤ 24) := (by have ha := hy.1; unfold allD lenOk at ha; simp only [Bool.and_eq_true, decide_eq_true_eq] at ha; exact ha.1.2)
    rw [hy.1] at CA
    rw [hy.2] at CI
    have CW := fun W => Lib.hid (refPow_any 4 y (Nat.lt_trans hyQ (by decide)) W)
    obtain ⟨py, hpy⟩ : ∃ z, pw 4 y = z := ⟨_, rfl⟩
    rw [hpy] at CW ⊢
    have HxQ : Hid (x < 1152921504606845789) := Nat.lt_of_le_of_lt hx2 (by decide)
    clear hy hv hpy hyQ hx1 hx2
    go_enter Try.func21, Try.ntmps21
    go_wp2_with fail
    refine nameW fun W1 hW1 => ?_
    have hB1 : Below w.heap.size w W1 := by rw [hW1.out]; exact (Below.refl w.heap.size w).alloc (Nat.le_refl _) _
    have k0 : W1.heap[w.heap.size]? = some (.cells #[.int .u64 x, .int .u64 y] 36 (0, 0)) := (by rw [hW1.out]; simp only [heap_alloc_if]; rw [if_pos trivial])
    refine (CA _ hB1).out.mono ?_
    rintro e w1 ⟨rfl, rfl⟩
    have e0 := cell_of (j := 0) k0 rfl
    have e1 := cell_of (j := 1) k0 rfl
    have HF1 := Lib.hid hB1
    have HK1 := Lib.hid k0
    clear hB1 hW1 k0
    go_wp2_with fail
    refine (CI _).out.mono ?_
    rintro e w2 ⟨rfl, hb2⟩
    have HF2 := Lib.hid (HF1.out.trans (hb2.mono HF1.out.size))
    have HK2 := Lib.hid ((hb2.block w.heap.size (lt_heap HK1.out)).trans HK1.out)
    clear hb2 e0 e1
    go_wp2_with fail
    have g0 := cell_of (j := 0) HK2.out rfl
    have g1 := cell_of (j := 1) HK2.out rfl
    go_loop [5, 6, 7] (fun p k i => ∃ q : Nat, q ≤ cs.length ∧ i = .int .i64 (q : Int) ∧ k = .int .u64 ((kq x q : Nat) : Int) ∧ p = .int .u64 ((prF cs x (List.range q) : Nat) : Int)) (fun _ _ i => cs.length - (intOf i).toNat)
    case atStart => exact ⟨0, Nat.zero_le _, rfl, rfl, rfl⟩
    case round =>
      obtain ⟨q, hq, rfl, rfl, rfl⟩ := hrel
      by_cases hlt : q < cs.length
      · have hlt' : (q : Int) < (cs.length : Int) := by omega
        obtain ⟨b, off, rfl, hbl, hck⟩ := IsU64.at_ (H.out.below HF2.out) (Below.refl _ _) hlt
        rw [← nth_get hlt] at hck
        have C1 := fun W => Lib.hid (refPow_any (nth cs q) (kq x q) (Nat.lt_trans (kq_lt x q) (by decide)) W)
        have C2 := fun W => Lib.hid (times_any (prF cs x (List.range q)) (facQ cs x q) 2305843009213691579 (prF_lt _ _ _) (Nat.lt_trans (pw_lt _ _) (by decide)) (by decide) W)
        have C3 := fun W => Lib.hid (times_any (kq x q) x 1152921504606845789 (kq_lt x q) (Nat.lt_trans HxQ.out (by decide)) (by decide) W)
        have HQ1 : Hid (kq x (q + 1) = kq x q * x % 1152921504606845789) := rfl
        rw [← HQ1.out] at C3
        have HP1 := Lib.hid (prF_snoc cs x (List.range q) q)
        rw [← List.range_succ] at HP1
        rw [← HP1.out] at C2
        have HFQ : Hid (facQ cs x q = pw (nth cs q) (kq x q)) := rfl
        rw [← HFQ.out] at C1
        go_wp2_with fail
        refine (C1 _).out.mono ?_
        rintro e w3 ⟨rfl, rfl⟩
        go_wp2_with fail
        refine (C2 _).out.mono ?_
        rintro e w3 ⟨rfl, rfl⟩
        go_wp2_with fail
        refine (C3 _).out.mono ?_
        rintro e w3 ⟨rfl, rfl⟩
        go_wp2_with fail
        go_round
        case rel => exact ⟨q + 1, by omega, by go_num, rfl, by rw [List.range_succ]⟩
        case measure => simp [intOf]; omega
      · have hnl : ¬ (q : Int) < (cs.length : Int) := by omega
        obtain rfl : q = cs.length := by omega
        go_wp2_with fail
        refine (CW _).out.mono ?_
        rintro e w3 ⟨rfl, rfl⟩
        go_wp2_with fail
        go_ret
        exact ⟨rfl, HF2.out⟩
  · rw [verD_no hy]
    obtain ⟨A, c, rfl, h1, h2, -⟩ := h
    by_cases ha : allD elOk cs = true
    · rw [ha] at CA
      rw [show shOk (x, y) = false by simpa [ha] using hy] at CI
      clear hy ha
      go_enter Try.func21, Try.ntmps21
      go_wp2_with fail
      refine nameW fun W1 hW1 => ?_
      have hB1 : Below w.heap.size w W1 := by rw [hW1.out]; exact (Below.refl w.heap.size w).alloc (Nat.le_refl _) _
      have k0 : W1.heap[w.heap.size]? = some (.cells #[.int .u64 x, .int .u64 y] 36 (0, 0)) := (by rw [hW1.out]; simp only [heap_alloc_if]; rw [if_pos trivial])
      refine (CA _ hB1).out.mono ?_
      rintro e w1 ⟨rfl, rfl⟩
      have e0 := cell_of (j := 0) k0 rfl
      have e1 := cell_of (j := 1) k0 rfl
      have HF1 := Lib.hid hB1
      clear hB1 hW1 k0
      go_wp2_with fail
      refine (CI _).out.mono ?_
      rintro e w2 ⟨rfl, hb2⟩
      have HF2 := Lib.hid (HF1.out.trans (hb2.mono HF1.out.size))
      clear hb2 e0 e1
      go_wp2_with fail
      go_ret
      exact ⟨rfl, HF2.out⟩
    · rw [show allD elOk cs = false by simpa using ha] at CA
      clear hy ha
      go_enter Try.func21, Try.ntmps21
      go_wp2_with fail
      refine nameW fun W1 hW1 => ?_
      have hB1 : Below w.heap.size w W1 := by rw [hW1.out]; exact (Below.refl w.heap.size w).alloc (Nat.le_refl _) _
      refine (CA _ hB1).out.mono ?_
      rintro e w1 ⟨rfl, rfl⟩
      clear hW1
      have HF1 := Lib.hid hB1
      clear hB1
      go_wp2_with fail
      go_ret
      exact ⟨rfl, HF1.out⟩
end Go.Proofs.Ytpcodholllaceaa
