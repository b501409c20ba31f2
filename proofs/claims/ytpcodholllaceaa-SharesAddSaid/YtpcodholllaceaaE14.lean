import Derived.Test.YtpcodholllaceaaE13
namespace Go.Proofs.Ytpcodholllaceaa
open Go.RowKit Go.Shelf

theorem minusQ_lt (a b : Nat) : minusQ a b < 1152921504606845789 := Nat.mod_lt _ (by decide)
set_option maxRecDepth 100000 in
theorem at1_any (a b : Nat) (ha : a < 1152921504606845789) (hb : b < 1152921504606845789) (w : World) : Calls Try.prog 57 #[.int .u64 a, .int .u64 b] w fun e w' => e = .returned (.int .u64 ((minusQ a b : Nat) : Int)) ∧ ∃ n, w' = w.drewN n := by
  obtain ⟨z, hz⟩ : ∃ z, 1152921504606845789 - b = z := ⟨_, rfl⟩
  have e1 : IntKind.u64.wrap (1152921504606845789 - (b : Int)) = (z : Int) := wn (by omega) (by omega)
  have C := Lib.hid (add_Q a z (by omega) w)
  rw [show (a + z) % 1152921504606845789 = minusQ a b by unfold minusQ; rw [hz]] at C
  obtain ⟨y, hy⟩ : ∃ y, minusQ a b = y := ⟨_, rfl⟩
  rw [hy] at C ⊢
  clear hz hy ha hb
  go_enter Try.func57, Try.ntmps57
  go_wp2_with fail
  refine C.out.mono ?_
  rintro e w' ⟨rfl, n, rfl⟩
  go_wp2_with fail
  go_ret
  exact ⟨rfl, n, rfl⟩
theorem prodQ_yes {l : List (Nat × Nat)} {i x n y : Nat} (h : n = i) : prodQ l i x (n + 1) y = prodQ l i x n y := by
  rw [prodQ, if_pos h]
theorem prodQ_no {l : List (Nat × Nat)} {i x n y : Nat} (h : n ≠ i) : prodQ l i x (n + 1) y = prodQ l i x n y * minusQ x (l.getD n (0, 0)).1 % 1152921504606845789 := by
  rw [prodQ, if_neg h]
theorem prodQ_lt {l : List (Nat × Nat)} {i x y : Nat} (hy : y < 1152921504606845789) : ∀ n, prodQ l i x n y < 1152921504606845789
  | 0 => hy
  | n + 1 => by
    by_cases h : n = i
    · rw [prodQ_yes h]; exact prodQ_lt hy n
    · rw [prodQ_no h]; exact Nat.mod_lt _ (by decide)
theorem atSum_lt (l : List (Nat × Nat)) (x : Nat) : ∀ i, atSum l x i < 1152921504606845789
  | 0 => (by decide : (0 : Nat) < 1152921504606845789)
  | i + 1 => Nat.mod_lt _ (by decide)
theorem invQ_lt (a : Nat) : invQ a < 1152921504606845789 := sqm_lt (by decide) _ _ _ _ (by decide)
/-- shares whose numbers are small -/
def ShQ (l : List (Nat × Nat)) : Prop := ∀ s ∈ l, s.1 < 1152921504606845789 ∧ s.2 < 1152921504606845789
theorem ShQ.getD {l : List (Nat × Nat)} (h : ShQ l) (i : Nat) : (l.getD i (0, 0)).1 < 1152921504606845789 ∧ (l.getD i (0, 0)).2 < 1152921504606845789 := by
  rw [List.getD_eq_getElem?_getD]
  rcases Nat.lt_or_ge i l.length with hi | hi
  · rw [List.getElem?_eq_getElem hi]; exact h _ (List.getElem_mem hi)
  · rw [List.getElem?_eq_none hi]; exact ⟨(by decide : (0 : Nat) < 1152921504606845789), (by decide : (0 : Nat) < 1152921504606845789)⟩
def fstD (l : List (Nat × Nat)) (i : Nat) : Nat := (l.getD i (0, 0)).1
def sndD (l : List (Nat × Nat)) (i : Nat) : Nat := (l.getD i (0, 0)).2
theorem IsShs.atD_ {w wr : World} {M : Nat → Prop} {A : Option Addr} {c k : Nat} {xs : List (Nat × Nat)} (h : IsShs w M (.slice A xs.length c) xs) (hb : Below w.heap.size w wr) (hk : k < xs.length) :
    ∃ b off, A = some ⟨b, off, none⟩ ∧ b < w.heap.size ∧ wr.cell? ⟨b, off + k * 2, none⟩ = some (.int .u64 ((fstD xs k : Nat) : Int)) ∧ wr.cell? ⟨b, off + k * 2 + 1, none⟩ = some (.int .u64 ((sndD xs k : Nat) : Int)) := by
  obtain ⟨b, off, e, hl, h1, h2⟩ := h.at_ hb hk
  refine ⟨b, off, e, hl, ?_, ?_⟩
  · rw [h1]; unfold fstD; rw [List.getD_eq_getElem?_getD, List.getElem?_eq_getElem hk]; rfl
  · rw [h2]; unfold sndD; rw [List.getD_eq_getElem?_getD, List.getElem?_eq_getElem hk]; rfl
set_option maxRecDepth 100000 in
set_option maxHeartbeats 2000000 in
theorem at_any (w : World) (M : Nat → Prop) (v : Value) (l : List (Nat × Nat)) (h : IsShs w M v l) (hq : ShQ l) (x : Nat) (hx : x < 1152921504606845789) :
    Calls Try.prog 46 #[v, .int .u64 x] w fun e w' => e = .returned (.int .u64 ((atD l x : Nat) : Int)) ∧ Below w.heap.size w w' := by
  have H := Lib.hid h
  have HQ := Lib.hid hq
  have HX := Lib.hid hx
  obtain ⟨A, c, rfl, h1, h2, -⟩ := h
  clear hq hx
  go_enter Try.func46, Try.ntmps46
  go_wp2_with fail
  go_loopw [4, 14] (fun y i wr => ∃ k : Nat, k ≤ l.length ∧ i = .int .i64 k ∧ y = .int .u64 ((atSum l x k : Nat) : Int) ∧ Hid (Below w.heap.size w wr)) (fun _ i _ => l.length - (intOf i).toNat)
  case atStart => exact ⟨0, Nat.zero_le _, rfl, rfl, Lib.hid (Below.refl _ _)⟩
  case round =>
    obtain ⟨k, hk, rfl, rfl, HB⟩ := hrel
    by_cases hlt : k < l.length
    · obtain ⟨b, off, rfl, hbl, hck, hck1⟩ := H.out.atD_ HB.out hlt
      have hlt' : (k : Int) < (l.length : Int) := by omega
      have hbr : b < wr.heap.size := Nat.lt_of_lt_of_le hbl HB.out.size
      go_wp2_with fail
      obtain ⟨W1, hW1⟩ : ∃ W1, W1 = wr.alloc (.cells #[.int .u64 ((fstD l k : Nat) : Int), .int .u64 ((sndD l k : Nat) : Int)] 36) := ⟨_, rfl⟩
      have k1 : W1.heap[wr.heap.size]? = some (.cells #[.int .u64 ((fstD l k : Nat) : Int), .int .u64 ((sndD l k : Nat) : Int)] 36 (0, 0)) := (by rw [hW1]; simp only [heap_alloc_if]; rw [if_pos trivial])
      have HB1 : Hid (Below w.heap.size w W1) := by rw [hW1]; exact HB.out.alloc HB.out.size _
      have hl1 : wr.heap.size < W1.heap.size := lt_heap k1
      have HK1 := Lib.hid k1
      rw [← hW1]
      clear hck hck1 k1 hW1
      have hsz1 := HB1.out.size
      have hbl1 : b < W1.heap.size := by omega
      clear hlt' hbr
      generalize wr.heap.size = g at hl1 HK1 ⊢
      go_loopw [8, 9, 23] (fun tp bt i wx => ∃ j : Nat, j ≤ l.length ∧ i = .int .i64 j ∧ tp = .int .u64 ((prodQ l k x j (sndD l k) : Nat) : Int) ∧ bt = .int .u64 ((prodQ l k (fstD l k) j 1 : Nat) : Int) ∧ Hid (Below W1.heap.size W1 wx)) (fun _ _ i _ => l.length - (intOf i).toNat)
      case atStart => exact ⟨0, Nat.zero_le _, rfl, rfl, rfl, Lib.hid (Below.refl _ _)⟩
      case round =>
        obtain ⟨j, hj, rfl, rfl, rfl, HBx⟩ := hrel
        have hszx := HBx.out.size
        by_cases hltj : j < l.length
        · obtain ⟨b', off', e', hbl', hcj, hcj1⟩ := H.out.atD_ (HB1.out.trans (HBx.out.mono HB1.out.size)) hltj
          cases e'
          have hltj' : (j : Int) < (l.length : Int) := by omega
          have HKx := Lib.hid ((HBx.out.block g hl1).trans HK1.out)
          have e0 := cell_of (j := 0) HKx.out rfl
          have hlx : g < wr.heap.size := by omega
          by_cases hjk : j = k
          · have hne : ((j : Int) != (k : Int)) = false := by rw [hjk]; simp
            have P1 := Lib.hid (prodQ_yes (l := l) (x := x) (y := sndD l k) hjk)
            have P2 := Lib.hid (prodQ_yes (l := l) (x := fstD l k) (y := 1) hjk)
            have HJ := Lib.hid hjk
            clear hjk
            go_wp2_with fail
            go_roundw
            case rel => exact ⟨j + 1, by omega, by go_num, by rw [P1.out], by rw [P2.out], Lib.hid (HBx.out.alloc hszx _)⟩
            case measure => simp [intOf]; omega
          · have hne : ((j : Int) != (k : Int)) = true := by simp; omega
            have P1 := Lib.hid (prodQ_no (l := l) (x := x) (y := sndD l k) hjk)
            have P2 := Lib.hid (prodQ_no (l := l) (x := fstD l k) (y := 1) hjk)
            have C1 := fun W => Lib.hid (at1_any x (fstD l j) HX.out (HQ.out.getD j).1 W)
            have C3 := fun W => Lib.hid (at1_any (fstD l k) (fstD l j) (HQ.out.getD k).1 (HQ.out.getD j).1 W)
            have C2 := fun W => Lib.hid (mul_Q (prodQ l k x j (sndD l k)) (minusQ x (fstD l j)) (prodQ_lt (HQ.out.getD k).2 _) (minusQ_lt _ _) W)
            have C4 := fun W => Lib.hid (mul_Q (prodQ l k (fstD l k) j 1) (minusQ (fstD l k) (fstD l j)) (prodQ_lt (by decide) _) (minusQ_lt _ _) W)
            rw [show prodQ l k x j (sndD l k) * minusQ x (fstD l j) % 1152921504606845789 = prodQ l k x (j + 1) (sndD l k) from P1.out.symm] at C2
            rw [show prodQ l k (fstD l k) j 1 * minusQ (fstD l k) (fstD l j) % 1152921504606845789 = prodQ l k (fstD l k) (j + 1) 1 from P2.out.symm] at C4
            clear hjk P1 P2
            generalize prodQ l k x j (sndD l k) = tp0 at C2 ⊢
            generalize prodQ l k (fstD l k) j 1 = bt0 at C4 ⊢
            generalize minusQ x (fstD l j) = m1 at C1 C2
            generalize minusQ (fstD l k) (fstD l j) = m2 at C3 C4
            go_wp2_with fail
            go_quiet ((first | (go_at_call 57; (first | with_reducible exact Calls.quiet_of (C1 _).out | with_reducible exact Calls.quiet_of (C3 _).out)) | (go_at_call 33; (first | with_reducible exact Calls.quiet_of (C2 _).out | with_reducible exact Calls.quiet_of (C4 _).out))))
            go_wp2_with fail
            go_roundw
            case rel => exact ⟨j + 1, by omega, by go_num, rfl, rfl, Lib.hid (below_drewN (HBx.out.alloc hszx _) _)⟩
            case measure => simp [intOf]; omega
        · have hnl : ¬ (j : Int) < (l.length : Int) := by omega
          obtain rfl : j = l.length := by omega
          have C1 := fun W => Lib.hid (inv_any (prodQ l k (fstD l k) l.length 1) (prodQ_lt (by decide) _) W)
          have C2 := fun W => Lib.hid (mul_Q (prodQ l k x l.length (sndD l k)) (invQ (prodQ l k (fstD l k) l.length 1)) (prodQ_lt (HQ.out.getD k).2 _) (invQ_lt _) W)
          have HT : Hid (atTerm l x k = prodQ l k x l.length (sndD l k) * invQ (prodQ l k (fstD l k) l.length 1) % 1152921504606845789) := rfl
          rw [← HT.out] at C2
          have hlt2 : atTerm l x k < 1152921504606845789 := Nat.mod_lt _ (by decide)
          have hls := atSum_lt l x k
          have C3 := fun W => Lib.hid (add_Q (atSum l x k) (atTerm l x k) (by omega) W)
          have HS : Hid (atSum l x (k + 1) = (atSum l x k + atTerm l x k) % 1152921504606845789) := rfl
          rw [← HS.out] at C3
          clear hlt2 hls
          generalize prodQ l k (fstD l k) l.length 1 = bt0 at C1 C2 ⊢
          generalize prodQ l k x l.length (sndD l k) = tp0 at C2 ⊢
          generalize invQ bt0 = iv at C1 C2
          go_wp2_with fail
          refine (C1 _).out.mono ?_
          rintro e w3 ⟨rfl, n1, rfl⟩
          go_wp2_with fail
          refine (C2 _).out.mono ?_
          rintro e w3 ⟨rfl, n2, rfl⟩
          go_wp2_with fail
          refine (C3 _).out.mono ?_
          rintro e w3 ⟨rfl, n3, rfl⟩
          go_wp2_with fail
          go_roundw
          case rel => exact ⟨k + 1, by omega, by go_num, rfl, Lib.hid (below_drewN (HB1.out.trans (HBx.out.mono HB1.out.size)) _)⟩
          case measure => simp [intOf]; omega
    · have hnl : ¬ (k : Int) < (l.length : Int) := by omega
      obtain rfl : k = l.length := by omega
      go_wp2_with fail
      go_ret
      exact ⟨rfl, HB.out⟩
end Go.Proofs.Ytpcodholllaceaa
