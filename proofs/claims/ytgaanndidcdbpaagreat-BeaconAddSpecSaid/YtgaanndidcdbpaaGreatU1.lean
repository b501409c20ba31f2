/- The reference's New: clubs in increasing order. -/
import Derived.Test.YtgaanndidcdbpaaGreatZL
import Derived.BigQuiet
namespace Go.Proofs.YtgaanndidcdbpaaGreat
open Go.RowKit Go.Shelf

theorem in_any (a b c : Int) (w : World) : Calls Tryz.prog 51 #[.int .i64 a, .int .i64 b, .int .i64 c] w (RetT (decide (b ≤ a) && decide (a ≤ c)) w) := by
  go_enter Tryz.func51, Tryz.ntmps51
  by_cases h1 : b ≤ a
  · have d1 : decide (b ≤ a) = true := decide_eq_true h1
    go_wp2_with fail
    go_ret
    exact ⟨(by first | rfl | (rw [d1]; rfl)), Below.refl _ _⟩
  · have d1 : decide (b ≤ a) = false := decide_eq_false h1
    go_wp2_with fail
    go_ret
    exact ⟨(by first | rfl | (rw [d1]; rfl)), Below.refl _ _⟩
def cl07 (a : Int) : Bool := decide (0 ≤ a) && decide (a ≤ 191)
theorem club_any (a : Int) (w : World) : Calls Tryz.prog 50 #[.int .i64 a] w (RetT (cl07 a) w) := by
  go_enter Tryz.func50, Tryz.ntmps50
  go_wp2_with fail
  refine (in_any a 0 191 w).mono ?_
  rintro e W1 ⟨rfl, hb⟩
  have HB := Lib.hid hb
  obtain ⟨z, hz⟩ : ∃ z, z = cl07 a := ⟨_, rfl⟩
  have HZ := Lib.hid hz
  rw [show (decide (0 ≤ a) && decide (a ≤ 191)) = z from hz.symm]
  clear hb hz
  go_wp2_with fail
  go_ret
  exact ⟨ret_bool HZ.out, HB.out⟩
def clubsR (cl : List Int) (lo hi : Int) : Bool := cl.all cl07 && (decide (lo ≤ (cl.length : Int)) && decide ((cl.length : Int) ≤ hi))
set_option maxHeartbeats 4000000 in
theorem clubs_any (w : World) (M : Nat → Prop) (v : Value) (cl : List Int) (lo hi : Int) (h : IsInts w M v cl) (hl : cl.length ≤ 100000) : Calls Tryz.prog 26 #[v, .int .i64 lo, .int .i64 hi] w (RetT (clubsR cl lo hi) w) := by
  obtain ⟨cA, cc, rfl, -⟩ := id h
  have HI := Lib.hid h
  obtain ⟨n, hn⟩ : ∃ n, n = cl.length := ⟨_, rfl⟩
  have HN := Lib.hid hn
  have HL := Lib.hid hl
  rw [← hn] at hl ⊢
  rw [← hn] at HI
  clear h hn
  go_enter Tryz.func26, Tryz.ntmps26
  go_wp2_with fail
  go_loopw [7] (fun i wr => ∃ k : Nat, k ≤ n ∧ i = .int .i64 (k : Int) ∧ Hid (∀ j, j < k → cl07 (nthI cl j) = true) ∧ Hid (Below w.heap.size w wr)) (fun i _ => n - (intOf i).toNat)
  case atStart => exact ⟨0, Nat.zero_le _, rfl, Lib.hid (fun j hj => absurd hj (by omega)), Lib.hid (Below.refl _ _)⟩
  case round =>
    obtain ⟨k, hk, rfl, HA, HB⟩ := hrel
    by_cases hlt : k < n
    · have hk1 : (k : Int) < (n : Int) := by omega
      have hk0 : (0 : Int) ≤ (k : Int) := by omega
      obtain ⟨b, off, rfl, hbl, hck⟩ := HI.out.at_ HB.out (show k < cl.length by rw [← HN.out]; exact hlt)
      obtain ⟨x, hx⟩ : ∃ x, x = nthI cl k := ⟨_, rfl⟩
      rw [← hx] at hck
      have HX := Lib.hid hx
      clear hx hbl
      go_wp2_with fail
      refine (club_any x wr).mono ?_
      rintro e W1 ⟨rfl, hb⟩
      have HB1 := Lib.hid (HB.out.trans (hb.mono HB.out.size))
      clear hb
      by_cases hz : cl07 x = true
      · rw [hz]
        have HA2 := Lib.hid (show ∀ j, j < k + 1 → cl07 (nthI cl j) = true from fun j hj => by
          rcases Nat.lt_or_ge j k with h1 | h1
          · exact HA.out j h1
          · rw [show j = k by omega, ← HX.out]; exact hz)
        clear hz hck
        go_wp2_with fail
        go_roundw
        case rel => exact ⟨k + 1, by omega, by go_num, HA2, HB1⟩
        case measure => simp [intOf]; omega
      · have HQ := Lib.hid (show clubsR cl lo hi = false by
          unfold clubsR
          rw [show cl.all cl07 = false from List.all_eq_false.2 ⟨cl[k]'(by rw [← HN.out]; exact hlt), List.getElem_mem _, by rw [← nthI_get, ← HX.out]; exact hz⟩]; rfl)
        rw [show cl07 x = false by simpa using hz]
        clear hz hck
        go_wp2_with fail
        go_ret
        exact ⟨ret_bool HQ.out.symm, HB1.out⟩
    · obtain rfl : k = n := by omega
      have hk1 : ¬ (k : Int) < (k : Int) := by omega
      have HQ := Lib.hid (show clubsR cl lo hi = (decide (lo ≤ (k : Int)) && decide ((k : Int) ≤ hi)) by
        unfold clubsR
        rw [← HN.out, show cl.all cl07 = true from List.all_eq_true.2 fun y hy => by
          obtain ⟨i, hi, rfl⟩ := List.getElem_of_mem hy
          rw [← nthI_get hi]; exact HA.out i (by rw [HN.out]; exact hi)]; rfl)
      clear hlt hk
      go_wp2_with fail
      refine (in_any _ _ _ wr).mono ?_
      rintro e W1 ⟨rfl, hb⟩
      have HB1 := Lib.hid (HB.out.trans (hb.mono HB.out.size))
      obtain ⟨z, hz⟩ : ∃ z, z = clubsR cl lo hi := ⟨_, rfl⟩
      have HZ := Lib.hid hz
      rw [← HQ.out, ← hz]
      clear hb hz HQ
      go_wp2_with fail
      go_ret
      exact ⟨ret_bool HZ.out, HB1.out⟩
def incrR (cl : List Int) : Bool := (List.range cl.length).all fun i => decide (i = 0) || decide (nthI cl (i - 1) < nthI cl i)
set_option maxHeartbeats 4000000 in
theorem incr_any (w : World) (M : Nat → Prop) (v : Value) (cl : List Int) (h : IsInts w M v cl) (hl : cl.length ≤ 100000) : Calls Tryz.prog 27 #[v] w (RetT (incrR cl) w) := by
  obtain ⟨cA, cc, rfl, -⟩ := id h
  have HI := Lib.hid h
  obtain ⟨n, hn⟩ : ∃ n, n = cl.length := ⟨_, rfl⟩
  have HN := Lib.hid hn
  rw [← hn] at hl ⊢
  rw [← hn] at HI
  clear h hn
  go_enter Tryz.func27, Tryz.ntmps27
  go_wp2_with fail
  go_loopw [3] (fun i wr => ∃ k : Nat, 1 ≤ k ∧ (k ≤ n ∨ k = 1) ∧ i = .int .i64 (k : Int) ∧ Hid (∀ j, j < k → j < n → j = 0 ∨ nthI cl (j - 1) < nthI cl j) ∧ Hid (Below w.heap.size w wr)) (fun i _ => n - (intOf i).toNat)
  case atStart => exact ⟨1, Nat.le_refl _, .inr rfl, rfl, Lib.hid (fun j hj _ => .inl (by omega)), Lib.hid (Below.refl _ _)⟩
  case round =>
    obtain ⟨k, hk9, hk, rfl, HA, HB⟩ := hrel
    by_cases hlt : k < n
    · have hk1 : (k : Int) < (n : Int) := by omega
      have hk0 : (0 : Int) ≤ (k : Int) := by omega
      obtain ⟨b, off, rfl, hbl, hck⟩ := HI.out.at_ HB.out (show k < cl.length by rw [← HN.out]; exact hlt)
      obtain ⟨b', off', e, -, hcp⟩ := HI.out.at_ HB.out (show k - 1 < cl.length by rw [← HN.out]; omega)
      injection e with e
      injection e with e e'
      subst e e'
      obtain ⟨k1, hk1e⟩ : ∃ k1 : Nat, k = k1 + 1 := ⟨k - 1, by omega⟩
      have hk1w : (k : Int) - 1 = (k1 : Int) := by omega
      have hk1r : (k1 : Int) < (n : Int) := by omega
      have hk10 : (0 : Int) ≤ (k1 : Int) := by omega
      obtain ⟨x, hx⟩ : ∃ x, x = nthI cl k := ⟨_, rfl⟩
      obtain ⟨y, hy⟩ : ∃ y, y = nthI cl (k - 1) := ⟨_, rfl⟩
      rw [← hx] at hck
      rw [← hy, show k - 1 = k1 by omega] at hcp
      have HXY := Lib.hid (And.intro hx hy)
      clear hx hy hbl
      by_cases hz : x ≤ y
      · have d1 : decide (x ≤ y) = true := decide_eq_true hz
        have HQ := Lib.hid (show incrR cl = false by
          unfold incrR
          refine List.all_eq_false.2 ⟨k, List.mem_range.2 (by rw [← HN.out]; exact hlt), ?_⟩
          rw [Bool.or_eq_true, decide_eq_true_eq, decide_eq_true_eq, ← HXY.out.1, ← HXY.out.2]
          omega)
        clear hz hk1e hk9
        go_upto_region 4 with fail
        go_quiet (fail)
        go_wp2_with fail
        go_ret
        exact ⟨ret_bool HQ.out.symm, below_drewN HB.out _⟩
      · have d1 : decide (x ≤ y) = false := decide_eq_false hz
        have HA2 := Lib.hid (show ∀ j, j < k + 1 → j < n → j = 0 ∨ nthI cl (j - 1) < nthI cl j from fun j hj hjn => by
          rcases Nat.lt_or_ge j k with h1 | h1
          · exact HA.out j h1 hjn
          · rw [show j = k by omega, ← HXY.out.1, ← HXY.out.2]; exact .inr (by omega))
        clear hz hk1e
        go_upto_region 4 with fail
        go_quiet (fail)
        go_wp2_with fail
        go_roundw
        case rel => exact ⟨k + 1, by omega, .inl (by omega), by go_num, HA2, Lib.hid (below_drewN HB.out _)⟩
        case measure => simp [intOf]; omega
    · have hk1 : ¬ (k : Int) < (n : Int) := by omega
      have HQ := Lib.hid (show incrR cl = true by
        unfold incrR
        refine List.all_eq_true.2 fun i hi => ?_
        have hi' := List.mem_range.1 hi
        rw [← HN.out] at hi'
        rw [Bool.or_eq_true, decide_eq_true_eq, decide_eq_true_eq]
        exact HA.out i (by omega) hi')
      clear hlt
      go_wp2_with fail
      go_ret
      exact ⟨ret_bool HQ.out.symm, HB.out⟩
theorem newB_ref {cl : List Int} {t : Int} {of : Nat} : newB cl t of = (clubsR cl 2 24 && (incrR cl && (decide (1 ≤ t) && (decide (t ≤ (cl.length : Int) - 1) && (decide (1 ≤ of) && decide (of ≤ 1152921504606846976)))))) := by
  unfold newB clubsR incrR
  rw [Bool.eq_iff_iff, decide_eq_true_eq]
  simp only [Bool.and_eq_true, decide_eq_true_eq, List.all_eq_true, List.mem_range, Bool.or_eq_true]
  constructor
  · intro h
    refine ⟨⟨fun y hy => ?_, by have := h.n2; omega, by have := h.n24; omega⟩, fun i hi => ?_, h.t1, by have := h.tn; omega, h.o1, h.o60⟩
    · obtain ⟨i, hi, rfl⟩ := List.getElem_of_mem hy
      have := h.club i hi
      unfold clubOk at this
      rw [nthI_get hi] at this
      unfold cl07
      simp only [Bool.and_eq_true, decide_eq_true_eq]
      omega
    · have := (h.club i hi).2.2
      omega
  · rintro ⟨⟨h1, h2, h3⟩, h4, h5, h6, h7, h8⟩
    refine ⟨by omega, by omega, h5, by omega, h7, h8, fun i hi => ⟨?_, ?_, fun h0 => ?_⟩⟩
    · have := h1 _ (List.getElem_mem hi)
      unfold cl07 at this
      simp only [Bool.and_eq_true, decide_eq_true_eq] at this
      rw [nthI_get hi]; omega
    · have := h1 _ (List.getElem_mem hi)
      unfold cl07 at this
      simp only [Bool.and_eq_true, decide_eq_true_eq] at this
      rw [nthI_get hi]; omega
    · have := h4 i hi; omega
set_option maxRecDepth 20000 in
set_option maxHeartbeats 4000000 in
theorem rnew_any (w : World) (M : Nat → Prop) (v : Value) (cl : List Int) (t : Int) (of : Nat) (h : IsInts w M v cl) (hl : cl.length ≤ 1000) : Calls Tryz.prog 8 #[v, .int .i64 t, .int .u64 (of : Int)] w (BeaE w (fun q => w.heap.size ≤ q) (newD cl t of)) := by
  obtain ⟨cA, cc, rfl, -⟩ := id h
  have HI := Lib.hid h
  obtain ⟨n, hn⟩ : ∃ n, n = cl.length := ⟨_, rfl⟩
  have HN := Lib.hid hn
  rw [← hn] at hl ⊢
  rw [← hn] at HI
  have HR := Lib.hid (newB_ref (cl := cl) (t := t) (of := of))
  rw [← hn] at HR
  obtain ⟨b1, hb1⟩ : ∃ z, z = clubsR cl 2 24 := ⟨_, rfl⟩
  obtain ⟨b2, hb2⟩ : ∃ z, z = incrR cl := ⟨_, rfl⟩
  have HB12 := Lib.hid (And.intro hb1 hb2)
  rw [← hb1, ← hb2] at HR
  obtain ⟨R, hR⟩ : ∃ z, z = newD cl t of := ⟨_, rfl⟩
  have HRD := Lib.hid (show R = if newB cl t of then (⟨cl, t, of, [], [], []⟩, 0) else (bea0, 240) from hR)
  rw [← hR]
  clear h hn hb1 hb2 hR
  go_enter Tryz.func8, Tryz.ntmps8
  go_upto_region 1 with fail
  refine nameC fun W1 hW1 => ?_
  have hb1 : Below w.heap.size w W1 := by rw [hW1.out]; exact (Below.refl _ _).alloc (Nat.le_refl _) _
  have k1 : W1.heap[w.heap.size]? = some (.cells #[.slice none 0 0, .int .i64 0, .int .u64 0, .slice none 0 0, .slice none 0 0, .slice none 0 0] 28 (0, 0)) := by rw [hW1.out]; exact heap_alloc_new _ _
  have K1 := Lib.hid k1
  have HB1 := Lib.hid hb1
  clear hW1 hb1 k1
  go_wp2_with fail
  refine (clubs_any W1 _ _ cl 2 24 (IsSl.below HI.out HB1.out) (by rw [← HN.out]; omega)).mono ?_
  rintro e W2 ⟨rfl, hb⟩
  rw [← HB12.out.1]
  have HB2 := Lib.hid (HB1.out.trans (hb.mono HB1.out.size))
  have K2 := Lib.hid ((hb.block _ (lt_heap K1.out)).trans K1.out)
  clear hb HB1 K1
  have m0 := cell_of (j := 0) K2.out rfl
  have fm0 : W2.frozen? ⟨w.heap.size, 0, none⟩ = false := by simp [World.frozen?, K2.out]
  have m1 := cell_of (j := 1) K2.out rfl
  have fm1 : W2.frozen? ⟨w.heap.size, 1, none⟩ = false := by simp [World.frozen?, K2.out]
  have m2 := cell_of (j := 2) K2.out rfl
  have fm2 : W2.frozen? ⟨w.heap.size, 2, none⟩ = false := by simp [World.frozen?, K2.out]
  have m3 := cell_of (j := 3) K2.out rfl
  have fm3 : W2.frozen? ⟨w.heap.size, 3, none⟩ = false := by simp [World.frozen?, K2.out]
  have m4 := cell_of (j := 4) K2.out rfl
  have fm4 : W2.frozen? ⟨w.heap.size, 4, none⟩ = false := by simp [World.frozen?, K2.out]
  have m5 := cell_of (j := 5) K2.out rfl
  have fm5 : W2.frozen? ⟨w.heap.size, 5, none⟩ = false := by simp [World.frozen?, K2.out]
  cases b1 with
  | false =>
    have HQ := Lib.hid (show R = (bea0, 240) by rw [HRD.out, HR.out]; rfl)
    go_wp2_with fail
    refine nameG (p := fun W => bodyPost Tryz.prog Tryz.f8 _ Exit.ret _ W) fun W7 hW7 => ?_
    have hk7 : W7.heap[w.heap.size]? = some (.cells #[.slice none 0 0, .int .i64 0, .int .u64 0, .slice none 0 0, .slice none 0 0, .slice none 0 0] 28 (0, 0)) := by
      have hx := (Blk_set (Blk_set (Blk_set (Blk_set (Blk_set (Blk_set K2.out (j := 0) (.slice none 0 0)) (j := 1) (.int .i64 0)) (j := 2) (.int .u64 0)) (j := 3) (.slice none 0 0)) (j := 4) (.slice none 0 0)) (j := 5) (.slice none 0 0))
      rw [hW7.out, hx]; rfl
    have j0 := cell_of (j := 0) hk7 rfl
    have j1 := cell_of (j := 1) hk7 rfl
    have j2 := cell_of (j := 2) hk7 rfl
    have j3 := cell_of (j := 3) hk7 rfl
    have j4 := cell_of (j := 4) hk7 rfl
    have j5 := cell_of (j := 5) hk7 rfl
    refine bodyPost_ret (v := .tuple #[.agg #[.slice none 0 0, .int .i64 0, .int .u64 0, .slice none 0 0, .slice none 0 0, .slice none 0 0], .int .i64 240]) (by simp [results, Tryz.results8, go_sem, j0, j1, j2, j3, j4, j5]) rfl ?_
    rw [HQ.out]
    refine ⟨_, rfl, IsBea.zero, ?_⟩
    rw [hW7.out]
    exact (((((HB2.out.setCell (Nat.le_refl _) _).setCell (Nat.le_refl _) _).setCell (Nat.le_refl _) _).setCell (Nat.le_refl _) _).setCell (Nat.le_refl _) _).setCell (Nat.le_refl _) _
  | true =>
  clear m0 fm0 m1 fm1 m2 fm2 m3 fm3 m4 fm4 m5 fm5
  go_wp2_with fail
  refine (incr_any W2 _ _ cl (IsSl.below HI.out HB2.out) (by rw [← HN.out]; omega)).mono ?_
  rintro e W3 ⟨rfl, hb⟩
  rw [← HB12.out.2]
  have HB3 := Lib.hid (HB2.out.trans (hb.mono HB2.out.size))
  have K3 := Lib.hid ((hb.block _ (lt_heap K2.out)).trans K2.out)
  clear hb HB2 K2
  have m0 := cell_of (j := 0) K3.out rfl
  have fm0 : W3.frozen? ⟨w.heap.size, 0, none⟩ = false := by simp [World.frozen?, K3.out]
  have m1 := cell_of (j := 1) K3.out rfl
  have fm1 : W3.frozen? ⟨w.heap.size, 1, none⟩ = false := by simp [World.frozen?, K3.out]
  have m2 := cell_of (j := 2) K3.out rfl
  have fm2 : W3.frozen? ⟨w.heap.size, 2, none⟩ = false := by simp [World.frozen?, K3.out]
  have m3 := cell_of (j := 3) K3.out rfl
  have fm3 : W3.frozen? ⟨w.heap.size, 3, none⟩ = false := by simp [World.frozen?, K3.out]
  have m4 := cell_of (j := 4) K3.out rfl
  have fm4 : W3.frozen? ⟨w.heap.size, 4, none⟩ = false := by simp [World.frozen?, K3.out]
  have m5 := cell_of (j := 5) K3.out rfl
  have fm5 : W3.frozen? ⟨w.heap.size, 5, none⟩ = false := by simp [World.frozen?, K3.out]
  cases b2 with
  | false =>
    have HQ := Lib.hid (show R = (bea0, 240) by rw [HRD.out, HR.out]; rfl)
    go_wp2_with fail
    refine nameG (p := fun W => bodyPost Tryz.prog Tryz.f8 _ Exit.ret _ W) fun W7 hW7 => ?_
    have hk7 : W7.heap[w.heap.size]? = some (.cells #[.slice none 0 0, .int .i64 0, .int .u64 0, .slice none 0 0, .slice none 0 0, .slice none 0 0] 28 (0, 0)) := by
      have hx := (Blk_set (Blk_set (Blk_set (Blk_set (Blk_set (Blk_set K3.out (j := 0) (.slice none 0 0)) (j := 1) (.int .i64 0)) (j := 2) (.int .u64 0)) (j := 3) (.slice none 0 0)) (j := 4) (.slice none 0 0)) (j := 5) (.slice none 0 0))
      rw [hW7.out, hx]; rfl
    have j0 := cell_of (j := 0) hk7 rfl
    have j1 := cell_of (j := 1) hk7 rfl
    have j2 := cell_of (j := 2) hk7 rfl
    have j3 := cell_of (j := 3) hk7 rfl
    have j4 := cell_of (j := 4) hk7 rfl
    have j5 := cell_of (j := 5) hk7 rfl
    refine bodyPost_ret (v := .tuple #[.agg #[.slice none 0 0, .int .i64 0, .int .u64 0, .slice none 0 0, .slice none 0 0, .slice none 0 0], .int .i64 240]) (by simp [results, Tryz.results8, go_sem, j0, j1, j2, j3, j4, j5]) rfl ?_
    rw [HQ.out]
    refine ⟨_, rfl, IsBea.zero, ?_⟩
    rw [hW7.out]
    exact (((((HB3.out.setCell (Nat.le_refl _) _).setCell (Nat.le_refl _) _).setCell (Nat.le_refl _) _).setCell (Nat.le_refl _) _).setCell (Nat.le_refl _) _).setCell (Nat.le_refl _) _
  | true =>
  by_cases t1 : 1 ≤ t
  case neg =>
    have dt1 : decide (t < 1) = true := decide_eq_true (by omega)
    have HQ := Lib.hid (show R = (bea0, 240) by
      rw [HRD.out, HR.out, if_neg]
      simp only [Bool.and_eq_true, decide_eq_true_eq]
      rintro ⟨-, -, q1, q2, q3, q4⟩
      omega)
    clear t1
    go_wp2_with fail
    refine nameG (p := fun W => bodyPost Tryz.prog Tryz.f8 _ Exit.ret _ W) fun W7 hW7 => ?_
    have hk7 : W7.heap[w.heap.size]? = some (.cells #[.slice none 0 0, .int .i64 0, .int .u64 0, .slice none 0 0, .slice none 0 0, .slice none 0 0] 28 (0, 0)) := by
      have hx := (Blk_set (Blk_set (Blk_set (Blk_set (Blk_set (Blk_set K3.out (j := 0) (.slice none 0 0)) (j := 1) (.int .i64 0)) (j := 2) (.int .u64 0)) (j := 3) (.slice none 0 0)) (j := 4) (.slice none 0 0)) (j := 5) (.slice none 0 0))
      rw [hW7.out, hx]; rfl
    have j0 := cell_of (j := 0) hk7 rfl
    have j1 := cell_of (j := 1) hk7 rfl
    have j2 := cell_of (j := 2) hk7 rfl
    have j3 := cell_of (j := 3) hk7 rfl
    have j4 := cell_of (j := 4) hk7 rfl
    have j5 := cell_of (j := 5) hk7 rfl
    refine bodyPost_ret (v := .tuple #[.agg #[.slice none 0 0, .int .i64 0, .int .u64 0, .slice none 0 0, .slice none 0 0, .slice none 0 0], .int .i64 240]) (by simp [results, Tryz.results8, go_sem, j0, j1, j2, j3, j4, j5]) rfl ?_
    rw [HQ.out]
    refine ⟨_, rfl, IsBea.zero, ?_⟩
    rw [hW7.out]
    exact (((((HB3.out.setCell (Nat.le_refl _) _).setCell (Nat.le_refl _) _).setCell (Nat.le_refl _) _).setCell (Nat.le_refl _) _).setCell (Nat.le_refl _) _).setCell (Nat.le_refl _) _
  have dt1 : decide (t < 1) = false := decide_eq_false (by omega)
  by_cases t2 : t ≤ (n : Int) - 1
  case neg =>
    have dt2 : decide ((n : Int) - 1 < t) = true := decide_eq_true (by omega)
    have HQ := Lib.hid (show R = (bea0, 240) by
      rw [HRD.out, HR.out, if_neg]
      simp only [Bool.and_eq_true, decide_eq_true_eq]
      rintro ⟨-, -, q1, q2, q3, q4⟩
      omega)
    clear t2 t1
    go_wp2_with fail
    refine nameG (p := fun W => bodyPost Tryz.prog Tryz.f8 _ Exit.ret _ W) fun W7 hW7 => ?_
    have hk7 : W7.heap[w.heap.size]? = some (.cells #[.slice none 0 0, .int .i64 0, .int .u64 0, .slice none 0 0, .slice none 0 0, .slice none 0 0] 28 (0, 0)) := by
      have hx := (Blk_set (Blk_set (Blk_set (Blk_set (Blk_set (Blk_set K3.out (j := 0) (.slice none 0 0)) (j := 1) (.int .i64 0)) (j := 2) (.int .u64 0)) (j := 3) (.slice none 0 0)) (j := 4) (.slice none 0 0)) (j := 5) (.slice none 0 0))
      rw [hW7.out, hx]; rfl
    have j0 := cell_of (j := 0) hk7 rfl
    have j1 := cell_of (j := 1) hk7 rfl
    have j2 := cell_of (j := 2) hk7 rfl
    have j3 := cell_of (j := 3) hk7 rfl
    have j4 := cell_of (j := 4) hk7 rfl
    have j5 := cell_of (j := 5) hk7 rfl
    refine bodyPost_ret (v := .tuple #[.agg #[.slice none 0 0, .int .i64 0, .int .u64 0, .slice none 0 0, .slice none 0 0, .slice none 0 0], .int .i64 240]) (by simp [results, Tryz.results8, go_sem, j0, j1, j2, j3, j4, j5]) rfl ?_
    rw [HQ.out]
    refine ⟨_, rfl, IsBea.zero, ?_⟩
    rw [hW7.out]
    exact (((((HB3.out.setCell (Nat.le_refl _) _).setCell (Nat.le_refl _) _).setCell (Nat.le_refl _) _).setCell (Nat.le_refl _) _).setCell (Nat.le_refl _) _).setCell (Nat.le_refl _) _
  have dt2 : decide ((n : Int) - 1 < t) = false := decide_eq_false (by omega)
  by_cases t3 : 1 ≤ of
  case neg =>
    have dt3 : decide ((of : Int) < 1) = true := decide_eq_true (by omega)
    have HQ := Lib.hid (show R = (bea0, 240) by
      rw [HRD.out, HR.out, if_neg]
      simp only [Bool.and_eq_true, decide_eq_true_eq]
      rintro ⟨-, -, q1, q2, q3, q4⟩
      omega)
    clear t3 t1 t2
    go_wp2_with fail
    refine nameG (p := fun W => bodyPost Tryz.prog Tryz.f8 _ Exit.ret _ W) fun W7 hW7 => ?_
    have hk7 : W7.heap[w.heap.size]? = some (.cells #[.slice none 0 0, .int .i64 0, .int .u64 0, .slice none 0 0, .slice none 0 0, .slice none 0 0] 28 (0, 0)) := by
      have hx := (Blk_set (Blk_set (Blk_set (Blk_set (Blk_set (Blk_set K3.out (j := 0) (.slice none 0 0)) (j := 1) (.int .i64 0)) (j := 2) (.int .u64 0)) (j := 3) (.slice none 0 0)) (j := 4) (.slice none 0 0)) (j := 5) (.slice none 0 0))
      rw [hW7.out, hx]; rfl
    have j0 := cell_of (j := 0) hk7 rfl
    have j1 := cell_of (j := 1) hk7 rfl
    have j2 := cell_of (j := 2) hk7 rfl
    have j3 := cell_of (j := 3) hk7 rfl
    have j4 := cell_of (j := 4) hk7 rfl
    have j5 := cell_of (j := 5) hk7 rfl
    refine bodyPost_ret (v := .tuple #[.agg #[.slice none 0 0, .int .i64 0, .int .u64 0, .slice none 0 0, .slice none 0 0, .slice none 0 0], .int .i64 240]) (by simp [results, Tryz.results8, go_sem, j0, j1, j2, j3, j4, j5]) rfl ?_
    rw [HQ.out]
    refine ⟨_, rfl, IsBea.zero, ?_⟩
    rw [hW7.out]
    exact (((((HB3.out.setCell (Nat.le_refl _) _).setCell (Nat.le_refl _) _).setCell (Nat.le_refl _) _).setCell (Nat.le_refl _) _).setCell (Nat.le_refl _) _).setCell (Nat.le_refl _) _
  have dt3 : decide ((of : Int) < 1) = false := decide_eq_false (by omega)
  by_cases t4 : of ≤ 1152921504606846976
  case neg =>
    have dt4 : decide ((1152921504606846976 : Int) < (of : Int)) = true := decide_eq_true (by omega)
    have HQ := Lib.hid (show R = (bea0, 240) by
      rw [HRD.out, HR.out, if_neg]
      simp only [Bool.and_eq_true, decide_eq_true_eq]
      rintro ⟨-, -, q1, q2, q3, q4⟩
      omega)
    clear t4 t1 t2 t3
    go_wp2_with fail
    refine nameG (p := fun W => bodyPost Tryz.prog Tryz.f8 _ Exit.ret _ W) fun W7 hW7 => ?_
    have hk7 : W7.heap[w.heap.size]? = some (.cells #[.slice none 0 0, .int .i64 0, .int .u64 0, .slice none 0 0, .slice none 0 0, .slice none 0 0] 28 (0, 0)) := by
      have hx := (Blk_set (Blk_set (Blk_set (Blk_set (Blk_set (Blk_set K3.out (j := 0) (.slice none 0 0)) (j := 1) (.int .i64 0)) (j := 2) (.int .u64 0)) (j := 3) (.slice none 0 0)) (j := 4) (.slice none 0 0)) (j := 5) (.slice none 0 0))
      rw [hW7.out, hx]; rfl
    have j0 := cell_of (j := 0) hk7 rfl
    have j1 := cell_of (j := 1) hk7 rfl
    have j2 := cell_of (j := 2) hk7 rfl
    have j3 := cell_of (j := 3) hk7 rfl
    have j4 := cell_of (j := 4) hk7 rfl
    have j5 := cell_of (j := 5) hk7 rfl
    refine bodyPost_ret (v := .tuple #[.agg #[.slice none 0 0, .int .i64 0, .int .u64 0, .slice none 0 0, .slice none 0 0, .slice none 0 0], .int .i64 240]) (by simp [results, Tryz.results8, go_sem, j0, j1, j2, j3, j4, j5]) rfl ?_
    rw [HQ.out]
    refine ⟨_, rfl, IsBea.zero, ?_⟩
    rw [hW7.out]
    exact (((((HB3.out.setCell (Nat.le_refl _) _).setCell (Nat.le_refl _) _).setCell (Nat.le_refl _) _).setCell (Nat.le_refl _) _).setCell (Nat.le_refl _) _).setCell (Nat.le_refl _) _
  have dt4 : decide ((1152921504606846976 : Int) < (of : Int)) = false := decide_eq_false (by omega)
  have HQ := Lib.hid (show R = (⟨cl, t, of, [], [], []⟩, 0) by
    rw [HRD.out, HR.out, decide_eq_true t1, decide_eq_true t2, decide_eq_true t3, decide_eq_true t4]; rfl)
  clear t1 t2 t3 t4
  have hw3 : w.heap.size < W3.heap.size := lt_heap K3.out
  go_wp2_with (at_builtin; refine wpList_ints rfl (.tmp 36) (.tmp 37) rfl W3.heap.size [] cl (M := M) rfl (own_empty (by rw [heap_alloc_if, if_pos rfl]) (Nat.le_refl _)) rfl (IsSl.below HI.out (HB3.out.alloc HB3.out.size _)) (by rw [← HN.out]; simp; omega) (by simp) ?_; intro A9 d9 w9 H9; have hb9 : Below W3.heap.size W3 w9 := ((Below.refl _ _).alloc (Nat.le_refl _) _).trans H9.out.2.1; have K9 := Lib.hid ((hb9.block _ hw3).trans K3.out); obtain ⟨⟨r0, r1, r2, r3, r4, r5⟩, ⟨q0, q1, q2, q3, q4, q5⟩⟩ := blk6 K9.out)
  refine nameG (p := fun W => bodyPost Tryz.prog Tryz.f8 _ Exit.ret _ W) fun W7 hW7 => ?_
  have hk7 : W7.heap[w.heap.size]? = some (.cells #[.slice A9 cl.length d9, .int .i64 t, .int .u64 (of : Int), .slice none 0 0, .slice none 0 0, .slice none 0 0] 28 (0, 0)) := by
    have hx := (Blk_set (Blk_set (Blk_set (Blk_set (Blk_set (Blk_set K9.out (j := 0) (.slice A9 cl.length d9)) (j := 1) (.int .i64 t)) (j := 2) (.int .u64 (of : Int))) (j := 3) (.slice none 0 0)) (j := 4) (.slice none 0 0)) (j := 5) (.slice none 0 0))
    rw [hW7.out, hx]; rfl
  have j0 := cell_of (j := 0) hk7 rfl
  have j1 := cell_of (j := 1) hk7 rfl
  have j2 := cell_of (j := 2) hk7 rfl
  have j3 := cell_of (j := 3) hk7 rfl
  have j4 := cell_of (j := 4) hk7 rfl
  have j5 := cell_of (j := 5) hk7 rfl
  refine bodyPost_ret (v := .tuple #[.agg #[.slice A9 cl.length d9, .int .i64 t, .int .u64 (of : Int), .slice none 0 0, .slice none 0 0, .slice none 0 0], .int .i64 0]) (by simp [results, Tryz.results8, go_sem, j0, j1, j2, j3, j4, j5]) rfl ?_
  have hb9 : Below w.heap.size w w9 := HB3.out.trans ((((Below.refl _ _).alloc (Nat.le_refl _) _).trans H9.out.2.1).mono HB3.out.size)
  have hi9 : IsInts w9 (fun q => W3.heap.size ≤ q) (.slice A9 cl.length d9) cl := IsInts.ofOwn (by have := H9.out.1; rwa [List.nil_append] at this)
  have hi7 : IsInts W7 (fun q => w.heap.size ≤ q) (.slice A9 cl.length d9) cl := by
    refine IsSl.mono (IsSl.keep hi9 fun p hp hl => ?_) (fun q _ (hq : W3.heap.size ≤ q) => by show w.heap.size ≤ q; omega) (by omega)
    rw [hW7.out]
    have hne : p.block ≠ w.heap.size := by have : W3.heap.size ≤ p.block := hp; omega
    simp only [cell_setO hne]
  rw [HQ.out]
  refine ⟨_, rfl, ⟨_, _, _, _, rfl, hi7, IsComs.nil, IsSl.nil, IsSl.nil⟩, ?_⟩
  rw [hW7.out]
  exact (((((hb9.setCell (Nat.le_refl _) _).setCell (Nat.le_refl _) _).setCell (Nat.le_refl _) _).setCell (Nat.le_refl _) _).setCell (Nat.le_refl _) _).setCell (Nat.le_refl _) _
end Go.Proofs.YtgaanndidcdbpaaGreat
