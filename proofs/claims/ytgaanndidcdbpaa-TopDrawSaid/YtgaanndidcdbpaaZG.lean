import Derived.Test.YtgaanndidcdbpaaZF
import Derived.BigQuiet
import Derived.Maps.Own
import Derived.Deep.DeepCutAuto
import Derived.Test.YtgaanndidcdbpaaGen
import Derived.OrdersHeld
import Derived.Deep.RegionHeld
/- New: a beacon without commitments. -/
namespace Go.Proofs.Ytgaanndidcdbpaa
open Go.RowKit Go.Shelf

theorem new_no {cl : List Int} {t : Int} {of : Nat} (h : ¬ (2 ≤ cl.length ∧ cl.length ≤ 24 ∧ 1 ≤ t ∧ t < (cl.length : Int) ∧ 1 ≤ of ∧ of ≤ 1152921504606846976)) : newD cl t of = (bea0, 240) := by
  unfold newD newB
  rw [if_neg]
  intro e
  have e := of_decide_eq_true e
  exact h ⟨e.n2, e.n24, e.t1, e.tn, e.o1, e.o60⟩
theorem new_club {cl : List Int} {t : Int} {of k : Nat} (hk : k < cl.length) (h : ¬ clubOk cl k) : newD cl t of = (bea0, 240) := by
  unfold newD newB
  rw [if_neg]
  intro e
  exact h ((of_decide_eq_true e).club k hk)
theorem new_yes {cl : List Int} {t : Int} {of : Nat} (h : 2 ≤ cl.length ∧ cl.length ≤ 24 ∧ 1 ≤ t ∧ t < (cl.length : Int) ∧ 1 ≤ of ∧ of ≤ 1152921504606846976) (hc : clubsTo cl cl.length) : newD cl t of = (⟨cl, t, of, [], [], []⟩, 0) := by
  unfold newD newB
  rw [if_pos]
  obtain ⟨a, b, c, d, e, f⟩ := h
  exact decide_eq_true ⟨a, b, c, d, e, f, hc⟩
theorem IsBea.zero {w : World} {M : Nat → Prop} : IsBea w M (.agg #[.slice none 0 0, .int .i64 0, .int .u64 0, .slice none 0 0, .slice none 0 0, .slice none 0 0]) bea0 := ⟨_, _, _, _, rfl, IsSl.nil, IsComs.nil, IsSl.nil, IsSl.nil⟩
def BeaE (w : World) (Mx : Nat → Prop) (r : BeaD × Int) (e : Ending) (w' : World) : Prop := ∃ v, e = .returned (.tuple #[v, .int .i64 r.2]) ∧ IsBea w' Mx v r.1 ∧ Below w.heap.size w w'
set_option maxRecDepth 20000 in
set_option maxHeartbeats 4000000 in
theorem new_any (w : World) (M : Nat → Prop) (v : Value) (cl : List Int) (t : Int) (of : Nat) (h : IsInts w M v cl) : Calls Try.prog 27 #[v, .int .i64 t, .int .u64 (of : Int)] w (BeaE w (fun q => w.heap.size ≤ q) (newD cl t of)) := by
  obtain ⟨cA, cc, rfl, h1, h2, -⟩ := id h
  have HI := Lib.hid h
  obtain ⟨n, hn⟩ : ∃ n, n = cl.length := ⟨_, rfl⟩
  have HN := Lib.hid hn.symm
  rw [← hn] at h1
  have hn9 : n ≤ 9223372036854775807 := by omega
  rw [← hn]
  clear h h1 h2 hn
  go_enter Try.func27, Try.ntmps27
  go_upto_region 1 with fail
  refine nameC fun W1 hW1 => ?_
  have hb1 : Below w.heap.size w W1 := by rw [hW1.out]; exact (Below.refl _ _).alloc (Nat.le_refl _) _
  have k1 : W1.heap[w.heap.size]? = some (.cells #[.slice none 0 0, .int .i64 0, .int .u64 0, .slice none 0 0, .slice none 0 0, .slice none 0 0] 32 (0, 0)) := by rw [hW1.out]; exact heap_alloc_new _ _
  have K1 := Lib.hid k1
  have HB1 := Lib.hid hb1
  have m0 := cell_of (j := 0) K1.out rfl
  have fm0 : W1.frozen? ⟨w.heap.size, 0, none⟩ = false := by simp [World.frozen?, K1.out]
  have m1 := cell_of (j := 1) K1.out rfl
  have fm1 : W1.frozen? ⟨w.heap.size, 1, none⟩ = false := by simp [World.frozen?, K1.out]
  have m2 := cell_of (j := 2) K1.out rfl
  have fm2 : W1.frozen? ⟨w.heap.size, 2, none⟩ = false := by simp [World.frozen?, K1.out]
  have m3 := cell_of (j := 3) K1.out rfl
  have fm3 : W1.frozen? ⟨w.heap.size, 3, none⟩ = false := by simp [World.frozen?, K1.out]
  have m4 := cell_of (j := 4) K1.out rfl
  have fm4 : W1.frozen? ⟨w.heap.size, 4, none⟩ = false := by simp [World.frozen?, K1.out]
  have m5 := cell_of (j := 5) K1.out rfl
  have fm5 : W1.frozen? ⟨w.heap.size, 5, none⟩ = false := by simp [World.frozen?, K1.out]
  clear hW1 hb1 k1
  by_cases t1 : 2 ≤ n
  case neg =>
    have dt1 : decide ((n : Int) < 2) = true := decide_eq_true (by omega)
    have HQ := Lib.hid (show newD cl t of = (bea0, 240) from new_no (by rw [HN.out]; omega))
    clear t1
    go_wp2_with fail
    refine nameG (p := fun W => bodyPost Try.prog Try.f27 _ Exit.ret _ W) fun W7 hW7 => ?_
    have hk7 : W7.heap[w.heap.size]? = some (.cells #[.slice none 0 0, .int .i64 0, .int .u64 0, .slice none 0 0, .slice none 0 0, .slice none 0 0] 32 (0, 0)) := by
      have hx := (Blk_set (Blk_set (Blk_set (Blk_set (Blk_set (Blk_set K1.out (j := 0) (.slice none 0 0)) (j := 1) (.int .i64 0)) (j := 2) (.int .u64 0)) (j := 3) (.slice none 0 0)) (j := 4) (.slice none 0 0)) (j := 5) (.slice none 0 0))
      rw [hW7.out, hx]; rfl
    have j0 := cell_of (j := 0) hk7 rfl
    have j1 := cell_of (j := 1) hk7 rfl
    have j2 := cell_of (j := 2) hk7 rfl
    have j3 := cell_of (j := 3) hk7 rfl
    have j4 := cell_of (j := 4) hk7 rfl
    have j5 := cell_of (j := 5) hk7 rfl
    refine bodyPost_ret (v := .tuple #[.agg #[.slice none 0 0, .int .i64 0, .int .u64 0, .slice none 0 0, .slice none 0 0, .slice none 0 0], .int .i64 240]) (by simp [results, Try.results27, go_sem, j0, j1, j2, j3, j4, j5]) rfl ?_
    refine ⟨_, by rw [HQ.out], by rw [HQ.out]; exact IsBea.zero, ?_⟩
    rw [hW7.out]
    exact (((((HB1.out.setCell (by simp) _).setCell (by simp) _).setCell (by simp) _).setCell (by simp) _).setCell (by simp) _).setCell (by simp) _
  have dt1 : decide ((n : Int) < 2) = false := decide_eq_false (by omega)
  by_cases t2 : n ≤ 24
  case neg =>
    have dt2 : decide ((24 : Int) < (n : Int)) = true := decide_eq_true (by omega)
    have HQ := Lib.hid (show newD cl t of = (bea0, 240) from new_no (by rw [HN.out]; omega))
    clear t2
    go_wp2_with fail
    refine nameG (p := fun W => bodyPost Try.prog Try.f27 _ Exit.ret _ W) fun W7 hW7 => ?_
    have hk7 : W7.heap[w.heap.size]? = some (.cells #[.slice none 0 0, .int .i64 0, .int .u64 0, .slice none 0 0, .slice none 0 0, .slice none 0 0] 32 (0, 0)) := by
      have hx := (Blk_set (Blk_set (Blk_set (Blk_set (Blk_set (Blk_set K1.out (j := 0) (.slice none 0 0)) (j := 1) (.int .i64 0)) (j := 2) (.int .u64 0)) (j := 3) (.slice none 0 0)) (j := 4) (.slice none 0 0)) (j := 5) (.slice none 0 0))
      rw [hW7.out, hx]; rfl
    have j0 := cell_of (j := 0) hk7 rfl
    have j1 := cell_of (j := 1) hk7 rfl
    have j2 := cell_of (j := 2) hk7 rfl
    have j3 := cell_of (j := 3) hk7 rfl
    have j4 := cell_of (j := 4) hk7 rfl
    have j5 := cell_of (j := 5) hk7 rfl
    refine bodyPost_ret (v := .tuple #[.agg #[.slice none 0 0, .int .i64 0, .int .u64 0, .slice none 0 0, .slice none 0 0, .slice none 0 0], .int .i64 240]) (by simp [results, Try.results27, go_sem, j0, j1, j2, j3, j4, j5]) rfl ?_
    refine ⟨_, by rw [HQ.out], by rw [HQ.out]; exact IsBea.zero, ?_⟩
    rw [hW7.out]
    exact (((((HB1.out.setCell (by simp) _).setCell (by simp) _).setCell (by simp) _).setCell (by simp) _).setCell (by simp) _).setCell (by simp) _
  have dt2 : decide ((24 : Int) < (n : Int)) = false := decide_eq_false (by omega)
  by_cases t3 : 1 ≤ t
  case neg =>
    have dt3 : decide (t < 1) = true := decide_eq_true (by omega)
    have HQ := Lib.hid (show newD cl t of = (bea0, 240) from new_no (by rw [HN.out]; omega))
    clear t3
    go_wp2_with fail
    refine nameG (p := fun W => bodyPost Try.prog Try.f27 _ Exit.ret _ W) fun W7 hW7 => ?_
    have hk7 : W7.heap[w.heap.size]? = some (.cells #[.slice none 0 0, .int .i64 0, .int .u64 0, .slice none 0 0, .slice none 0 0, .slice none 0 0] 32 (0, 0)) := by
      have hx := (Blk_set (Blk_set (Blk_set (Blk_set (Blk_set (Blk_set K1.out (j := 0) (.slice none 0 0)) (j := 1) (.int .i64 0)) (j := 2) (.int .u64 0)) (j := 3) (.slice none 0 0)) (j := 4) (.slice none 0 0)) (j := 5) (.slice none 0 0))
      rw [hW7.out, hx]; rfl
    have j0 := cell_of (j := 0) hk7 rfl
    have j1 := cell_of (j := 1) hk7 rfl
    have j2 := cell_of (j := 2) hk7 rfl
    have j3 := cell_of (j := 3) hk7 rfl
    have j4 := cell_of (j := 4) hk7 rfl
    have j5 := cell_of (j := 5) hk7 rfl
    refine bodyPost_ret (v := .tuple #[.agg #[.slice none 0 0, .int .i64 0, .int .u64 0, .slice none 0 0, .slice none 0 0, .slice none 0 0], .int .i64 240]) (by simp [results, Try.results27, go_sem, j0, j1, j2, j3, j4, j5]) rfl ?_
    refine ⟨_, by rw [HQ.out], by rw [HQ.out]; exact IsBea.zero, ?_⟩
    rw [hW7.out]
    exact (((((HB1.out.setCell (by simp) _).setCell (by simp) _).setCell (by simp) _).setCell (by simp) _).setCell (by simp) _).setCell (by simp) _
  have dt3 : decide (t < 1) = false := decide_eq_false (by omega)
  by_cases t4 : t < (n : Int)
  case neg =>
    have dt4 : decide ((n : Int) ≤ t) = true := decide_eq_true (by omega)
    have HQ := Lib.hid (show newD cl t of = (bea0, 240) from new_no (by rw [HN.out]; omega))
    clear t4
    go_wp2_with fail
    refine nameG (p := fun W => bodyPost Try.prog Try.f27 _ Exit.ret _ W) fun W7 hW7 => ?_
    have hk7 : W7.heap[w.heap.size]? = some (.cells #[.slice none 0 0, .int .i64 0, .int .u64 0, .slice none 0 0, .slice none 0 0, .slice none 0 0] 32 (0, 0)) := by
      have hx := (Blk_set (Blk_set (Blk_set (Blk_set (Blk_set (Blk_set K1.out (j := 0) (.slice none 0 0)) (j := 1) (.int .i64 0)) (j := 2) (.int .u64 0)) (j := 3) (.slice none 0 0)) (j := 4) (.slice none 0 0)) (j := 5) (.slice none 0 0))
      rw [hW7.out, hx]; rfl
    have j0 := cell_of (j := 0) hk7 rfl
    have j1 := cell_of (j := 1) hk7 rfl
    have j2 := cell_of (j := 2) hk7 rfl
    have j3 := cell_of (j := 3) hk7 rfl
    have j4 := cell_of (j := 4) hk7 rfl
    have j5 := cell_of (j := 5) hk7 rfl
    refine bodyPost_ret (v := .tuple #[.agg #[.slice none 0 0, .int .i64 0, .int .u64 0, .slice none 0 0, .slice none 0 0, .slice none 0 0], .int .i64 240]) (by simp [results, Try.results27, go_sem, j0, j1, j2, j3, j4, j5]) rfl ?_
    refine ⟨_, by rw [HQ.out], by rw [HQ.out]; exact IsBea.zero, ?_⟩
    rw [hW7.out]
    exact (((((HB1.out.setCell (by simp) _).setCell (by simp) _).setCell (by simp) _).setCell (by simp) _).setCell (by simp) _).setCell (by simp) _
  have dt4 : decide ((n : Int) ≤ t) = false := decide_eq_false (by omega)
  by_cases t5 : 1 ≤ of
  case neg =>
    have dt5 : decide ((of : Int) < 1) = true := decide_eq_true (by omega)
    have HQ := Lib.hid (show newD cl t of = (bea0, 240) from new_no (by rw [HN.out]; omega))
    clear t5
    go_wp2_with fail
    refine nameG (p := fun W => bodyPost Try.prog Try.f27 _ Exit.ret _ W) fun W7 hW7 => ?_
    have hk7 : W7.heap[w.heap.size]? = some (.cells #[.slice none 0 0, .int .i64 0, .int .u64 0, .slice none 0 0, .slice none 0 0, .slice none 0 0] 32 (0, 0)) := by
      have hx := (Blk_set (Blk_set (Blk_set (Blk_set (Blk_set (Blk_set K1.out (j := 0) (.slice none 0 0)) (j := 1) (.int .i64 0)) (j := 2) (.int .u64 0)) (j := 3) (.slice none 0 0)) (j := 4) (.slice none 0 0)) (j := 5) (.slice none 0 0))
      rw [hW7.out, hx]; rfl
    have j0 := cell_of (j := 0) hk7 rfl
    have j1 := cell_of (j := 1) hk7 rfl
    have j2 := cell_of (j := 2) hk7 rfl
    have j3 := cell_of (j := 3) hk7 rfl
    have j4 := cell_of (j := 4) hk7 rfl
    have j5 := cell_of (j := 5) hk7 rfl
    refine bodyPost_ret (v := .tuple #[.agg #[.slice none 0 0, .int .i64 0, .int .u64 0, .slice none 0 0, .slice none 0 0, .slice none 0 0], .int .i64 240]) (by simp [results, Try.results27, go_sem, j0, j1, j2, j3, j4, j5]) rfl ?_
    refine ⟨_, by rw [HQ.out], by rw [HQ.out]; exact IsBea.zero, ?_⟩
    rw [hW7.out]
    exact (((((HB1.out.setCell (by simp) _).setCell (by simp) _).setCell (by simp) _).setCell (by simp) _).setCell (by simp) _).setCell (by simp) _
  have dt5 : decide ((of : Int) < 1) = false := decide_eq_false (by omega)
  by_cases t6 : of ≤ 1152921504606846976
  case neg =>
    have dt6 : decide ((1152921504606846976 : Int) < (of : Int)) = true := decide_eq_true (by omega)
    have HQ := Lib.hid (show newD cl t of = (bea0, 240) from new_no (by rw [HN.out]; omega))
    clear t6
    go_wp2_with fail
    refine nameG (p := fun W => bodyPost Try.prog Try.f27 _ Exit.ret _ W) fun W7 hW7 => ?_
    have hk7 : W7.heap[w.heap.size]? = some (.cells #[.slice none 0 0, .int .i64 0, .int .u64 0, .slice none 0 0, .slice none 0 0, .slice none 0 0] 32 (0, 0)) := by
      have hx := (Blk_set (Blk_set (Blk_set (Blk_set (Blk_set (Blk_set K1.out (j := 0) (.slice none 0 0)) (j := 1) (.int .i64 0)) (j := 2) (.int .u64 0)) (j := 3) (.slice none 0 0)) (j := 4) (.slice none 0 0)) (j := 5) (.slice none 0 0))
      rw [hW7.out, hx]; rfl
    have j0 := cell_of (j := 0) hk7 rfl
    have j1 := cell_of (j := 1) hk7 rfl
    have j2 := cell_of (j := 2) hk7 rfl
    have j3 := cell_of (j := 3) hk7 rfl
    have j4 := cell_of (j := 4) hk7 rfl
    have j5 := cell_of (j := 5) hk7 rfl
    refine bodyPost_ret (v := .tuple #[.agg #[.slice none 0 0, .int .i64 0, .int .u64 0, .slice none 0 0, .slice none 0 0, .slice none 0 0], .int .i64 240]) (by simp [results, Try.results27, go_sem, j0, j1, j2, j3, j4, j5]) rfl ?_
    refine ⟨_, by rw [HQ.out], by rw [HQ.out]; exact IsBea.zero, ?_⟩
    rw [hW7.out]
    exact (((((HB1.out.setCell (by simp) _).setCell (by simp) _).setCell (by simp) _).setCell (by simp) _).setCell (by simp) _).setCell (by simp) _
  have dt6 : decide ((1152921504606846976 : Int) < (of : Int)) = false := decide_eq_false (by omega)
  have HT := Lib.hid (show 2 ≤ n ∧ n ≤ 24 ∧ 1 ≤ t ∧ t < (n : Int) ∧ 1 ≤ of ∧ of ≤ 1152921504606846976 from ⟨t1, t2, t3, t4, t5, t6⟩)
  have hn24 : n ≤ 24 := t2
  clear t1 t2 t3 t4 t5 t6
  go_wp2_with fail
  go_loopw [39] (fun i wr => ∃ k : Nat, k ≤ n ∧ i = .int .i64 (k : Int) ∧ Hid (clubsTo cl k) ∧ Hid (wr = W1)) (fun i _ => n - (intOf i).toNat)
  case atStart => exact ⟨0, Nat.zero_le _, rfl, Lib.hid clubsTo_zero, Lib.hid rfl⟩
  case round =>
    obtain ⟨k, hk, rfl, HC, HW⟩ := hrel
    obtain rfl := HW.out
    clear HW
    by_cases hlt : k < n
    · have hk1 : (k : Int) < (n : Int) := by omega
      have hk0 : (0 : Int) ≤ (k : Int) := by omega
      obtain ⟨b, off, rfl, hbl, hck⟩ := HI.out.at_ HB1.out (show k < cl.length by rw [HN.out]; exact hlt)
      have HKC := Lib.hid (show clubOk cl k ↔ (0 ≤ nthI cl k ∧ nthI cl k < 192 ∧ (0 < k → nthI cl (k - 1) < nthI cl k)) from Iff.rfl)
      have HKL := Lib.hid (show k < cl.length by rw [HN.out]; exact hlt)
      obtain ⟨x, hx⟩ : ∃ x, x = nthI cl k := ⟨_, rfl⟩
      rw [← hx] at hck HKC
      clear hx
      by_cases a1 : x < 0
      · have d1 : decide (x < 0) = true := decide_eq_true a1
        have HQ := Lib.hid (new_club (t := t) (of := of) HKL.out (by rw [HKC.out]; omega))
        clear hlt a1
        go_wp2_with fail
        refine nameG (p := fun W => bodyPost Try.prog Try.f27 _ Exit.ret _ W) fun W7 hW7 => ?_
        have hk7 : W7.heap[w.heap.size]? = some (.cells #[.slice none 0 0, .int .i64 0, .int .u64 0, .slice none 0 0, .slice none 0 0, .slice none 0 0] 32 (0, 0)) := by
          have hx := (Blk_set (Blk_set (Blk_set (Blk_set (Blk_set (Blk_set K1.out (j := 0) (.slice none 0 0)) (j := 1) (.int .i64 0)) (j := 2) (.int .u64 0)) (j := 3) (.slice none 0 0)) (j := 4) (.slice none 0 0)) (j := 5) (.slice none 0 0))
          rw [hW7.out, hx]; rfl
        have j0 := cell_of (j := 0) hk7 rfl
        have j1 := cell_of (j := 1) hk7 rfl
        have j2 := cell_of (j := 2) hk7 rfl
        have j3 := cell_of (j := 3) hk7 rfl
        have j4 := cell_of (j := 4) hk7 rfl
        have j5 := cell_of (j := 5) hk7 rfl
        refine bodyPost_ret (v := .tuple #[.agg #[.slice none 0 0, .int .i64 0, .int .u64 0, .slice none 0 0, .slice none 0 0, .slice none 0 0], .int .i64 240]) (by simp [results, Try.results27, go_sem, j0, j1, j2, j3, j4, j5]) rfl ?_
        refine ⟨_, by rw [HQ.out], by rw [HQ.out]; exact IsBea.zero, ?_⟩
        rw [hW7.out]
        exact (((((HB1.out.setCell (by simp) _).setCell (by simp) _).setCell (by simp) _).setCell (by simp) _).setCell (by simp) _).setCell (by simp) _
      have d1 : decide (x < 0) = false := decide_eq_false a1
      by_cases a2 : 192 ≤ x
      · have d2 : decide (192 ≤ x) = true := decide_eq_true a2
        have HQ := Lib.hid (new_club (t := t) (of := of) HKL.out (by rw [HKC.out]; omega))
        clear hlt a1 a2
        go_wp2_with fail
        refine nameG (p := fun W => bodyPost Try.prog Try.f27 _ Exit.ret _ W) fun W7 hW7 => ?_
        have hk7 : W7.heap[w.heap.size]? = some (.cells #[.slice none 0 0, .int .i64 0, .int .u64 0, .slice none 0 0, .slice none 0 0, .slice none 0 0] 32 (0, 0)) := by
          have hx := (Blk_set (Blk_set (Blk_set (Blk_set (Blk_set (Blk_set K1.out (j := 0) (.slice none 0 0)) (j := 1) (.int .i64 0)) (j := 2) (.int .u64 0)) (j := 3) (.slice none 0 0)) (j := 4) (.slice none 0 0)) (j := 5) (.slice none 0 0))
          rw [hW7.out, hx]; rfl
        have j0 := cell_of (j := 0) hk7 rfl
        have j1 := cell_of (j := 1) hk7 rfl
        have j2 := cell_of (j := 2) hk7 rfl
        have j3 := cell_of (j := 3) hk7 rfl
        have j4 := cell_of (j := 4) hk7 rfl
        have j5 := cell_of (j := 5) hk7 rfl
        refine bodyPost_ret (v := .tuple #[.agg #[.slice none 0 0, .int .i64 0, .int .u64 0, .slice none 0 0, .slice none 0 0, .slice none 0 0], .int .i64 240]) (by simp [results, Try.results27, go_sem, j0, j1, j2, j3, j4, j5]) rfl ?_
        refine ⟨_, by rw [HQ.out], by rw [HQ.out]; exact IsBea.zero, ?_⟩
        rw [hW7.out]
        exact (((((HB1.out.setCell (by simp) _).setCell (by simp) _).setCell (by simp) _).setCell (by simp) _).setCell (by simp) _).setCell (by simp) _
      have d2 : decide (192 ≤ x) = false := decide_eq_false a2
      by_cases a3 : k = 0
      · have d3 : decide (0 < (k : Int)) = false := decide_eq_false (by omega)
        have d3n : decide (0 < k) = false := decide_eq_false (by omega)
        have HC2 := Lib.hid (clubsTo_succ HC.out (HKC.out.2 ⟨by omega, by omega, fun h => absurd h (by omega)⟩))
        clear a1 a2 a3
        go_wp2_with fail
        go_roundw
        case rel => exact ⟨k + 1, by omega, by go_num, HC2, by first | exact Lib.hid rfl | exact Lib.hid trivial⟩
        case measure => simp [intOf]; omega
      have d3 : decide (0 < (k : Int)) = true := decide_eq_true (by omega)
      have d3n : decide (0 < k) = true := decide_eq_true (by omega)
      obtain ⟨b', off', e, -, hcp⟩ := HI.out.at_ HB1.out (show k - 1 < cl.length by rw [HN.out]; omega)
      injection e with e
      injection e with e e'
      subst e e'
      obtain ⟨y, hy⟩ : ∃ y, y = nthI cl (k - 1) := ⟨_, rfl⟩
      rw [← hy] at hcp HKC
      obtain ⟨k1, hk1e⟩ : ∃ k1 : Nat, k = k1 + 1 := ⟨k - 1, by omega⟩
      have hk1w : (k : Int) - 1 = (k1 : Int) := by omega
      have hk1r : (k1 : Int) < (n : Int) := by omega
      have hk10 : (0 : Int) ≤ (k1 : Int) := by omega
      rw [show k - 1 = k1 by omega] at hcp
      clear hy
      by_cases a4 : x ≤ y
      · have d4 : decide (x ≤ y) = true := decide_eq_true a4
        have HQ := Lib.hid (new_club (t := t) (of := of) HKL.out (by rw [HKC.out]; omega))
        clear hlt a1 a2 a3 a4 hk1e
        go_wp2_with fail
        refine nameG (p := fun W => bodyPost Try.prog Try.f27 _ Exit.ret _ W) fun W7 hW7 => ?_
        have hk7 : W7.heap[w.heap.size]? = some (.cells #[.slice none 0 0, .int .i64 0, .int .u64 0, .slice none 0 0, .slice none 0 0, .slice none 0 0] 32 (0, 0)) := by
          have hx := (Blk_set (Blk_set (Blk_set (Blk_set (Blk_set (Blk_set K1.out (j := 0) (.slice none 0 0)) (j := 1) (.int .i64 0)) (j := 2) (.int .u64 0)) (j := 3) (.slice none 0 0)) (j := 4) (.slice none 0 0)) (j := 5) (.slice none 0 0))
          rw [hW7.out, hx]; rfl
        have j0 := cell_of (j := 0) hk7 rfl
        have j1 := cell_of (j := 1) hk7 rfl
        have j2 := cell_of (j := 2) hk7 rfl
        have j3 := cell_of (j := 3) hk7 rfl
        have j4 := cell_of (j := 4) hk7 rfl
        have j5 := cell_of (j := 5) hk7 rfl
        refine bodyPost_ret (v := .tuple #[.agg #[.slice none 0 0, .int .i64 0, .int .u64 0, .slice none 0 0, .slice none 0 0, .slice none 0 0], .int .i64 240]) (by simp [results, Try.results27, go_sem, j0, j1, j2, j3, j4, j5]) rfl ?_
        refine ⟨_, by rw [HQ.out], by rw [HQ.out]; exact IsBea.zero, ?_⟩
        rw [hW7.out]
        exact (((((HB1.out.setCell (by simp) _).setCell (by simp) _).setCell (by simp) _).setCell (by simp) _).setCell (by simp) _).setCell (by simp) _
      have d4 : decide (x ≤ y) = false := decide_eq_false a4
      have HC2 := Lib.hid (clubsTo_succ HC.out (HKC.out.2 ⟨by omega, by omega, fun _ => by omega⟩))
      clear a1 a2 a3 a4 hk1e
      go_wp2_with fail
      go_roundw
      case rel => exact ⟨k + 1, by omega, by go_num, HC2, by first | exact Lib.hid rfl | exact Lib.hid trivial⟩
      case measure => simp [intOf]; omega
    · have hk1 : ¬ (k : Int) < (n : Int) := by omega
      obtain rfl : k = n := by omega
      have HQ := Lib.hid (new_yes (by rw [HN.out]; exact HT.out) (by rw [HN.out]; exact HC.out))
      clear hlt
      go_wp2_with fail
      refine (clone_any wr M _ cl (by rw [HN.out] at HI; exact IsSl.below HI.out HB1.out) (by rw [HN.out]; omega)).mono ?_
      rintro e W3 ⟨A3, c3, rfl, hown3, hb3⟩
      rw [HN.out] at hown3 ⊢
      have HO3 := Lib.hid hown3
      have HB3 := Lib.hid (HB1.out.trans (hb3.mono HB1.out.size))
      have K3 := Lib.hid ((hb3.block _ (lt_heap K1.out)).trans K1.out)
      clear hown3 hb3 m0 m1 m2 m3 m4 m5 fm0 fm1 fm2 fm3 fm4 fm5
      have m0 := cell_of (j := 0) K3.out rfl
      have fm0 : W3.frozen? ⟨w.heap.size, 0, none⟩ = false := by simp [World.frozen?, K3.out]
      have m1 := cell_of (j := 1) K3.out rfl
      have fm1 : W3.frozen? ⟨w.heap.size, 1, none⟩ = false := by simp [World.frozen?, K3.out]
      have m2 := cell_of (j := 2) K3.out rfl
      have fm2 : W3.frozen? ⟨w.heap.size, 2, none⟩ = false := by simp [World.frozen?, K3.out]
      have m3 := cell_of (j := 3) K3.out rfl
      have fm3 : W3.frozen? ⟨w.heap.size, 3, none⟩ = false := by simp [World.frozen?, K3.out]
      have m4 := cell_of (j := 4) K3.out rfl
      have fm4 : W3.frozen? ⟨w.heap.size, 4, none⟩ = false := by simp [World.frozen?, K3.out]
      have m5 := cell_of (j := 5) K3.out rfl
      have fm5 : W3.frozen? ⟨w.heap.size, 5, none⟩ = false := by simp [World.frozen?, K3.out]
      go_wp2_with fail
      refine nameG (p := fun W => bodyPost Try.prog Try.f27 _ Exit.ret _ W) fun W7 hW7 => ?_
      have hk7 : W7.heap[w.heap.size]? = some (.cells #[.slice A3 k c3, .int .i64 t, .int .u64 (of : Int), .slice none 0 0, .slice none 0 0, .slice none 0 0] 32 (0, 0)) := by
        have hx := (Blk_set (Blk_set (Blk_set (Blk_set (Blk_set (Blk_set K3.out (j := 0) (.slice A3 k c3)) (j := 1) (.int .i64 t)) (j := 2) (.int .u64 (of : Int))) (j := 3) (.slice none 0 0)) (j := 4) (.slice none 0 0)) (j := 5) (.slice none 0 0))
        rw [hW7.out, hx]; rfl
      have j0 := cell_of (j := 0) hk7 rfl
      have j1 := cell_of (j := 1) hk7 rfl
      have j2 := cell_of (j := 2) hk7 rfl
      have j3 := cell_of (j := 3) hk7 rfl
      have j4 := cell_of (j := 4) hk7 rfl
      have j5 := cell_of (j := 5) hk7 rfl
      refine bodyPost_ret (v := .tuple #[.agg #[.slice A3 k c3, .int .i64 t, .int .u64 (of : Int), .slice none 0 0, .slice none 0 0, .slice none 0 0], .int .i64 0]) (by simp [results, Try.results27, go_sem, j0, j1, j2, j3, j4, j5]) rfl ?_
      have hb7 : Below w.heap.size w W7 := by
        rw [hW7.out]
        exact (((((HB3.out.setCell (by simp) _).setCell (by simp) _).setCell (by simp) _).setCell (by simp) _).setCell (by simp) _).setCell (by simp) _
      have hi3 : IsInts W3 (fun b => wr.heap.size ≤ b) (.slice A3 k c3) cl := IsInts.ofOwn (by rw [HN.out]; exact HO3.out)
      have hs1 : w.heap.size < wr.heap.size := lt_heap K1.out
      have hi7 : IsInts W7 (fun q => w.heap.size ≤ q) (.slice A3 k c3) cl := by
        refine IsSl.mono (IsSl.keep hi3 fun p hp hl => ?_) (fun q _ (hq : wr.heap.size ≤ q) => by show w.heap.size ≤ q; omega) (by omega)
        rw [hW7.out]
        have hne : p.block ≠ w.heap.size := by omega
        simp only [cell_setO hne]
      refine ⟨_, by rw [HQ.out], ?_, hb7⟩
      rw [HQ.out]
      exact ⟨_, _, _, _, rfl, hi7, IsComs.nil, IsSl.nil, IsSl.nil⟩
end Go.Proofs.Ytgaanndidcdbpaa
/- open: what is found in a beacon. -/
namespace Go.Proofs.Ytgaanndidcdbpaa
open Go.RowKit Go.Shelf

theorem Try.zeroBoard (W : World) : (zeroValue 89).run Try.prog W = .ok (.agg #[.slice none 0 0, .int .i64 0, .int .u64 0, .slice none 0 0, .slice none 0 0, .slice none 0 0, .map none, .map none, .bool false]) W := by kernel_rfl
def BoardE (w : World) (M : Nat → Prop) (b : BeaD) (e : Ending) (w' : World) : Prop := ∃ v, e = .returned v ∧ IsBoard w' M v b ∧ Below w.heap.size w w'
set_option maxRecDepth 20000 in
set_option maxHeartbeats 4000000 in
theorem open_any (w : World) (M : Nat → Prop) (v : Value) (b : BeaD) (h : IsBea w M v b) (hs : SmallB b) : Calls Try.prog 30 #[v] w (BoardE w M b) := by
  obtain ⟨cA, cc, kA, kc, rA, rc, oA, oc, rfl, i1, i2, i3, i4⟩ := h.parts
  have HI1 := Lib.hid i1
  have HI2 := Lib.hid i2
  have HI3 := Lib.hid i3
  have HI4 := Lib.hid i4
  have HS := Lib.hid hs
  obtain ⟨n, hn⟩ : ∃ n, n = b.clubs.length := ⟨_, rfl⟩
  obtain ⟨m, hm⟩ : ∃ n, n = b.coms.length := ⟨_, rfl⟩
  obtain ⟨nr, hnr⟩ : ∃ n, n = b.revs.length := ⟨_, rfl⟩
  obtain ⟨no, hno⟩ : ∃ n, n = b.opns.length := ⟨_, rfl⟩
  obtain ⟨thr, hthr⟩ : ∃ n, n = b.thr := ⟨_, rfl⟩
  obtain ⟨rng, hrng⟩ : ∃ n, n = b.rng := ⟨_, rfl⟩
  obtain ⟨z, hz⟩ : ∃ z, z = doneB b := ⟨_, rfl⟩
  have HE := Lib.hid (And.intro hn (And.intro hm (And.intro hnr (And.intro hno (And.intro hthr (And.intro hrng hz))))))
  have hn9 : n ≤ 1000 := hn ▸ hs.cl
  have hm9 : m ≤ 1000 := hm ▸ hs.co
  rw [← hn, ← hm, ← hnr, ← hno, ← hthr, ← hrng]
  clear h hs i1 i2 i3 i4 hn hm hnr hno hthr hrng hz
  go_enter Try.func30, Try.ntmps30
  go_upto_region 1 with fail
  refine nameC fun W1 hW1 => ?_
  have hb1 : Below w.heap.size w W1 := by rw [hW1.out]; exact ((Below.refl _ _).alloc (Nat.le_refl _) _).alloc (by simp) _
  have hz1 : W1.heap.size = w.heap.size + 1 + 1 := by rw [hW1.out]; simp
  have k0 : W1.heap[w.heap.size]? = some (.cells #[.slice cA n cc, .int .i64 thr, .int .u64 (rng : Int), .slice kA m kc, .slice rA nr rc, .slice oA no oc] 32 (0, 0)) := by rw [hW1.out]; simp only [heap_alloc_if, World.size_alloc]; rw [if_neg (by omega)]; rw [if_pos trivial]
  have k1 : W1.heap[w.heap.size + 1]? = some (.cells #[.slice none 0 0, .int .i64 0, .int .u64 0, .slice none 0 0, .slice none 0 0, .slice none 0 0, .map none, .map none, .bool false] 89 (0, 0)) := by rw [hW1.out]; simp only [heap_alloc_if, World.size_alloc]; rw [if_pos trivial]
  obtain ⟨Br, hBr⟩ : ∃ B, B = w.heap.size + 1 := ⟨_, rfl⟩
  rw [← hBr] at k1 hz1 ⊢
  obtain ⟨bp, hbp⟩ : ∃ B, B = W1.heap.size := ⟨_, rfl⟩
  obtain ⟨bc, hbc⟩ : ∃ B, B = bp + 1 := ⟨_, rfl⟩
  obtain ⟨g3, hg3⟩ : ∃ B, B = bc + 1 := ⟨_, rfl⟩
  have hbc' : bc = W1.heap.size + 1 := by omega
  have hg3' : g3 = W1.heap.size + 1 + 1 := by omega
  have hlt0 : w.heap.size < Br := by omega
  have hlt1 : Br < bp := by omega
  have hlt2 : bp < bc := by omega
  have hlt3 : bc < g3 := by omega
  have HC := Lib.hid (show ∀ W', Below W1.heap.size W1 W' → (W'.cell? ⟨w.heap.size, 0, none⟩ = some (.slice cA n cc) ∧ W'.cell? ⟨w.heap.size, 1, none⟩ = some (.int .i64 thr) ∧ W'.cell? ⟨w.heap.size, 2, none⟩ = some (.int .u64 (rng : Int)) ∧ W'.cell? ⟨w.heap.size, 3, none⟩ = some (.slice kA m kc) ∧ W'.cell? ⟨w.heap.size, 4, none⟩ = some (.slice rA nr rc) ∧ W'.cell? ⟨w.heap.size, 5, none⟩ = some (.slice oA no oc)) from fun W' h => by
    have e0 := (h.block _ (lt_heap k0)).trans k0
    exact ⟨cell_of e0 rfl, cell_of e0 rfl, cell_of e0 rfl, cell_of e0 rfl, cell_of e0 rfl, cell_of e0 rfl⟩)
  have HB1 := Lib.hid hb1
  have K1 := Lib.hid k1
  obtain ⟨r0, r1, r2, r3, r4, r5⟩ := HC.out _ (Below.refl _ _)
  have hmk1 : ∀ W, (Instr.makeMap 86 none).run Try.prog W = .ok (.map (some W.heap.size)) (W.alloc (.map #[] 0)) := fun W => rfl
  have hmk2 : ∀ W, (Instr.makeMap 87 none).run Try.prog W = .ok (.map (some W.heap.size)) (W.alloc (.map #[] 0)) := fun W => rfl
  clear hW1 hb1 k0 k1 hBr hz1
  obtain ⟨vs, hvc, hvs⟩ := id HI2.out
  have HVS := Lib.hid hvs
  have HVC := Lib.hid hvc
  clear hvs hvc
  go_upto_region 2 with fail
  refine nameC fun W2 hW2 => ?_
  have hW2' := hW2.out
  (try simp only [World.size_alloc] at hW2' ⊢)
  rw [← hg3', ← hbc', ← hbp]
  rw [← hbc', ← hbp] at hW2'
  have hsz2 : bp ≤ W1.heap.size := by omega
  have hb2 : Below W1.heap.size W1 W2 := by rw [hW2']; exact (((Below.refl _ _).alloc (Nat.le_refl _) _).alloc (by simp) _).alloc (by simp; omega) _
  have k3 : W2.heap[g3]? = some (.cells #[.slice cA n cc, .int .i64 thr, .int .u64 (rng : Int), .slice kA m kc, .slice rA nr rc, .slice oA no oc, .map (some bp), .map (some bc), .bool false] 89 (0, 0)) := by rw [hW2', heap_alloc_if, if_pos (by simp; omega)]
  have hp2 : MapV ikv Try.prog 3 W2 bp 0 0 (placeV b.clubs 0) := by
    rw [hW2', hbp]
    exact ((MapV.made W1).alloc _).alloc _
  have hc2 : MapV ikv Try.prog 3 W2 bc 0 0 (comV vs b.coms 0) := by
    have e : bc = (W1.alloc (.map #[] 0)).heap.size := by simp; omega
    rw [hW2', e]
    exact (MapV.made _).alloc _
  have K3 := Lib.hid k3
  have HP2 := Lib.hid hp2
  have HC2 := Lib.hid hc2
  have HB2 := Lib.hid hb2
  have HSZ := Lib.hid (show W1.heap.size = bp from hbp.symm)
  clear hW2 hW2' k3 hp2 hc2 hb2 r0 r1 r2 r3 r4 r5 hg3 hg3' hbc hbc' hbp hsz2 hmk1 hmk2
  obtain ⟨r0, r1, r2, r3, r4, r5⟩ := HC.out _ HB2.out
  go_wp2_with fail
  go_loopw [15] (fun s15 wr => ∃ k cnt : Nat, k ≤ n ∧ s15 = .int .i64 (k : Int) ∧ Hid (MapV ikv Try.prog 3 wr bp k cnt (placeV b.clubs k)) ∧ Hid (MapV ikv Try.prog 3 wr bc 0 0 (comV vs b.coms 0)) ∧ Hid (wr.heap[g3]? = some (.cells #[.slice cA n cc, .int .i64 thr, .int .u64 (rng : Int), .slice kA m kc, .slice rA nr rc, .slice oA no oc, .map (some bp), .map (some bc), .bool false] 89 (0, 0))) ∧ Hid (Below W1.heap.size W1 wr)) (fun s15 _ => n - (intOf s15).toNat)
  case atStart => exact ⟨0, 0, Nat.zero_le _, rfl, HP2, HC2, K3, HB2⟩
  case round =>
    clear HP2 HC2 K3 HB2
    obtain ⟨k, cnt, hk, rfl, HP, HCM, K3, HB⟩ := hrel
    have HBW := Lib.hid (HB1.out.trans (HB.out.mono HB1.out.size))
    by_cases hlt : k < n
    · have hk1 : (k : Int) < (n : Int) := by omega
      have hk0 : (0 : Int) ≤ (k : Int) := by omega
      have hcl : k < b.clubs.length := by rw [← HE.out.1]; exact hlt
      obtain ⟨cb, off, rfl, hbl, hck⟩ := HI1.out.at_ HBW.out hcl
      have HSUC := Lib.hid (placeV_succ b.clubs k)
      have hw := HS.out.clW k hcl
      obtain ⟨x, hx⟩ : ∃ x, x = nthI b.clubs k := ⟨_, rfl⟩
      rw [← hx] at hck HSUC hw
      have HWF := Lib.hid hw.wf
      have d1 := cell_of (j := 6) K3.out rfl
      have hg3l := lt_heap K3.out
      clear hx hw hcl
      go_wp2_with (at_mapUpdate; refine wpList_update_mapV rfl _ _ _ 86 rfl (Maps.int_keyed Try.underlying3) Try.underlying86 rfl HP.out (by unfold maxLen; omega) ikv_inj x _ rfl (Maps.keyOf_int_mk Try.underlying3 HWF.out) (.int .i64 (k : Int)) rfl ?_; intro w8 hs8 hg8)
      have HP8 : Hid (∃ cnt, MapV ikv Try.prog 3 w8 bp (k + 1) cnt (placeV b.clubs (k + 1))) := Lib.hid ⟨_, by rw [← HSUC.out]; exact hs8⟩
      have HC8 := Lib.hid (HCM.out.kept hg8 (by intro e; injection e with e; omega))
      have K8 := Lib.hid ((hg8.block g3 hg3l (by intro e; injection e with e; omega)).trans K3.out)
      have HB8 := Lib.hid (HB.out.grown hg8 (by have := HB.out.size; omega) (fun q e => by cases e; rw [HSZ.out]; exact Nat.le_refl _))
      clear hs8 hg8 d1 HP HCM K3 HB
      obtain ⟨cnt8, hp8⟩ := HP8.out
      have HP9 := Lib.hid hp8
      clear hp8 HP8
      go_wp2_with fail
      go_roundw
      case rel => exact ⟨k + 1, cnt8, by omega, by go_num, HP9, HC8, K8, HB8⟩
      case measure => simp [intOf]; omega
    · have hk1 : ¬ (k : Int) < (n : Int) := by omega
      obtain rfl : n = k := by omega
      have HPf := Lib.hid (show MapV ikv Try.prog 3 wr bp n cnt (placeV b.clubs b.clubs.length) by rw [← HE.out.1]; exact HP.out)
      clear HP r0 r1 r2 r3 r4 r5
      obtain ⟨r0, r1, r2, r3, r4, r5⟩ := HC.out _ HB.out
      go_wp2_with fail
      go_loopw [28] (fun s28 wr => ∃ j : Nat, j ≤ m ∧ s28 = .int .i64 (j : Int) ∧ Hid (MapV ikv Try.prog 3 wr bp n cnt (placeV b.clubs b.clubs.length)) ∧ Hid (MapV ikv Try.prog 3 wr bc j (cntTo (fun i => (comN b.coms i).club) j) (comV vs b.coms j)) ∧ Hid (wr.heap[g3]? = some (.cells #[.slice cA n cc, .int .i64 thr, .int .u64 (rng : Int), .slice kA m kc, .slice rA nr rc, .slice oA no oc, .map (some bp), .map (some bc), .bool false] 89 (0, 0))) ∧ Hid (Below W1.heap.size W1 wr)) (fun s28 _ => m - (intOf s28).toNat)
      case atStart => exact ⟨0, Nat.zero_le _, rfl, HPf, HCM, K3, HB⟩
      case round =>
        clear HPf HCM K3 HB r0 r1 r2 r3 r4 r5 hk1 hlt hk HBW
        obtain ⟨j, hj, rfl, HPf, HCM, K3, HB⟩ := hrel
        have HBW := Lib.hid (HB1.out.trans (HB.out.mono HB1.out.size))
        by_cases hlt : j < m
        · have hk1 : (j : Int) < (m : Int) := by omega
          have hk0 : (0 : Int) ≤ (j : Int) := by omega
          have hcl : j < b.coms.length := by rw [← HE.out.2.1]; exact hlt
          obtain ⟨A', c', e, -, -, hcells⟩ := HVC.out
          obtain ⟨rfl, -, rfl⟩ := Value.slice.inj e
          obtain ⟨cb, off, rfl, -, hbl, hck, hck1⟩ := Cells.at2 hcells HBW.out hcl
          obtain ⟨uA, uc, eu, -⟩ := HVS.out j hcl
          have HSUC := Lib.hid (comV_succ vs b.coms j)
          have HHAS := Lib.hid (comV_has vs b.coms (comN b.coms j).club j)
          have hw := HS.out.coW j hcl
          have hck1' : wr.cell? ⟨cb, off + j * 2 + 1, none⟩ = some (vs j) := hck1
          have hck' : wr.cell? ⟨cb, off + j * 2, none⟩ = some (.int .i64 (comN b.coms j).club) := hck
          rw [eu] at hck1' HSUC
          have HCNT := Lib.hid (show (if ((List.range j).any fun i => decide ((comN b.coms j).club = (comN b.coms i).club)) then cntTo (fun i => (comN b.coms i).club) j else cntTo (fun i => (comN b.coms i).club) j + 1) = cntTo (fun i => (comN b.coms i).club) (j + 1) from rfl)
          obtain ⟨ul, hul⟩ : ∃ x, x = (comN b.coms j).checks.length := ⟨_, rfl⟩
          obtain ⟨cx, hcx⟩ : ∃ x, x = (comN b.coms j).club := ⟨_, rfl⟩
          rw [← hul, ← hcx] at HSUC
          rw [← hcx] at HHAS hck' hw
          rw [← hul] at hck1'
          have HCX := Lib.hid hcx
          have HWF := Lib.hid hw.wf
          have d1 := cell_of (j := 7) K3.out rfl
          have hg3l := lt_heap K3.out
          have HCA := Lib.hid (HCM.out.alloc (.cells #[.int .i64 cx, .slice uA ul uc] 64))
          clear e hcells hck hck1 eu hw hcl hul hcx hbl
          go_wp2_with (at_mapUpdate; refine wpList_update_mapV rfl _ _ _ 87 rfl (Maps.int_keyed Try.underlying3) Try.underlying87 rfl HCA.out (by unfold maxLen; omega) ikv_inj cx _ rfl (Maps.keyOf_int_mk Try.underlying3 HWF.out) (.agg #[.int .i64 cx, .slice uA ul uc]) rfl ?_; intro w8 hs8 hg8)
          rw [HSUC.out, HHAS.out, HCX.out, HCNT.out] at hs8
          have HC8 := Lib.hid hs8
          have hba : Below W1.heap.size W1 (wr.alloc (.cells #[.int .i64 cx, .slice uA ul uc] 64)) := HB.out.alloc HB.out.size _
          have HP8 := Lib.hid ((HPf.out.alloc (.cells #[.int .i64 cx, .slice uA ul uc] 64)).kept hg8 (by intro e; injection e with e; omega))
          have K8 := Lib.hid ((hg8.block g3 (by simp; omega) (by intro e; injection e with e; omega)).trans ((by rw [heap_alloc_if, if_neg (by omega)] : (wr.alloc (.cells #[.int .i64 cx, .slice uA ul uc] 64)).heap[g3]? = wr.heap[g3]?).trans K3.out))
          have HB8 := Lib.hid (hba.grown hg8 hba.size (fun q e => by cases e; rw [HSZ.out]; omega))
          clear hs8 hg8 d1 HPf HCM K3 HB HCA hba hck' hck1'
          go_wp2_with fail
          go_roundw
          case rel => exact ⟨j + 1, by omega, by go_num, HP8, HC8, K8, HB8⟩
          case measure => simp [intOf]; omega
        · have hk1 : ¬ (j : Int) < (m : Int) := by omega
          obtain rfl : m = j := by omega
          have hz : ((cntTo (fun i => (comN b.coms i).club) m : Int) == (n : Int)) = z := by
            rw [HE.out.2.2.2.2.2.2, HE.out.1, HE.out.2.1]
            unfold doneB
            rw [Bool.eq_iff_iff, beq_iff_eq, decide_eq_true_eq]
            omega
          obtain ⟨cm, hcm⟩ : ∃ c, c = cntTo (fun i => (comN b.coms i).club) m := ⟨_, rfl⟩
          rw [← hcm] at hz HCM
          have hlen : ∀ ty, (Builtin.len_ #[87] ty #[.map (some bc)]).run Try.prog wr = .ok (.int .i64 (cm : Int)) wr := fun ty => HCM.out.len Try.underlying87 ty
          obtain ⟨r0, r1, r2, r3, r4, r5⟩ := HC.out _ HB.out
          have m0 := cell_of (j := 0) K3.out rfl
          have fm0 : wr.frozen? ⟨g3, 0, none⟩ = false := by simp [World.frozen?, K3.out]
          have m1 := cell_of (j := 1) K3.out rfl
          have fm1 : wr.frozen? ⟨g3, 1, none⟩ = false := by simp [World.frozen?, K3.out]
          have m2 := cell_of (j := 2) K3.out rfl
          have fm2 : wr.frozen? ⟨g3, 2, none⟩ = false := by simp [World.frozen?, K3.out]
          have m3 := cell_of (j := 3) K3.out rfl
          have fm3 : wr.frozen? ⟨g3, 3, none⟩ = false := by simp [World.frozen?, K3.out]
          have m4 := cell_of (j := 4) K3.out rfl
          have fm4 : wr.frozen? ⟨g3, 4, none⟩ = false := by simp [World.frozen?, K3.out]
          have m5 := cell_of (j := 5) K3.out rfl
          have fm5 : wr.frozen? ⟨g3, 5, none⟩ = false := by simp [World.frozen?, K3.out]
          have m6 := cell_of (j := 6) K3.out rfl
          have fm6 : wr.frozen? ⟨g3, 6, none⟩ = false := by simp [World.frozen?, K3.out]
          have m7 := cell_of (j := 7) K3.out rfl
          have fm7 : wr.frozen? ⟨g3, 7, none⟩ = false := by simp [World.frozen?, K3.out]
          have m8 := cell_of (j := 8) K3.out rfl
          have fm8 : wr.frozen? ⟨g3, 8, none⟩ = false := by simp [World.frozen?, K3.out]
          clear hcm hlt hk1
          go_upto_region 13 with fail
          refine nameC fun W5 hW5 => ?_
          have k5 : W5.heap[g3]? = some (.cells #[.slice cA n cc, .int .i64 thr, .int .u64 (rng : Int), .slice kA m kc, .slice rA nr rc, .slice oA no oc, .map (some bp), .map (some bc), .bool z] 89 (0, 0)) := by
            have hx := Blk_set K3.out (j := 8) (.bool z)
            rw [hW5.out, hx]; rfl
          have k1 : W5.heap[Br]? = some (.cells #[.slice none 0 0, .int .i64 0, .int .u64 0, .slice none 0 0, .slice none 0 0, .slice none 0 0, .map none, .map none, .bool false] 89 (0, 0)) := by rw [hW5.out, heap_set_if, if_neg (by omega)]; exact (HB.out.block Br (by rw [HSZ.out]; exact hlt1)).trans K1.out
          have hb5 : Below w.heap.size w W5 := by rw [hW5.out]; exact HBW.out.setCell (by show w.heap.size ≤ g3; omega) _
          have hp5 : W5.heap[bp]? = wr.heap[bp]? := by rw [hW5.out]; exact Below.heap_setCell _ _ _ _ (show bp ≠ g3 by omega)
          have hc5 : W5.heap[bc]? = wr.heap[bc]? := by rw [hW5.out]; exact Below.heap_setCell _ _ _ _ (show bc ≠ g3 by omega)
          have K5 := Lib.hid k5
          have KB := Lib.hid k1
          have HB5 := Lib.hid hb5
          have HP5 := Lib.hid (HPf.out.block hp5)
          have HC5 := Lib.hid (HCM.out.block hc5)
          clear hW5 k5 k1 hb5 hp5 hc5 hz hlen r0 r1 r2 r3 r4 r5 m0 fm0 m1 fm1 m2 fm2 m3 fm3 m4 fm4 m5 fm5 m6 fm6 m7 fm7 m8 fm8
          have q0 := cell_of (j := 0) K5.out rfl
          have q1 := cell_of (j := 1) K5.out rfl
          have q2 := cell_of (j := 2) K5.out rfl
          have q3 := cell_of (j := 3) K5.out rfl
          have q4 := cell_of (j := 4) K5.out rfl
          have q5 := cell_of (j := 5) K5.out rfl
          have q6 := cell_of (j := 6) K5.out rfl
          have q7 := cell_of (j := 7) K5.out rfl
          have q8 := cell_of (j := 8) K5.out rfl
          have m0 := cell_of (j := 0) KB.out rfl
          have fm0 : W5.frozen? ⟨Br, 0, none⟩ = false := by simp [World.frozen?, KB.out]
          have m1 := cell_of (j := 1) KB.out rfl
          have fm1 : W5.frozen? ⟨Br, 1, none⟩ = false := by simp [World.frozen?, KB.out]
          have m2 := cell_of (j := 2) KB.out rfl
          have fm2 : W5.frozen? ⟨Br, 2, none⟩ = false := by simp [World.frozen?, KB.out]
          have m3 := cell_of (j := 3) KB.out rfl
          have fm3 : W5.frozen? ⟨Br, 3, none⟩ = false := by simp [World.frozen?, KB.out]
          have m4 := cell_of (j := 4) KB.out rfl
          have fm4 : W5.frozen? ⟨Br, 4, none⟩ = false := by simp [World.frozen?, KB.out]
          have m5 := cell_of (j := 5) KB.out rfl
          have fm5 : W5.frozen? ⟨Br, 5, none⟩ = false := by simp [World.frozen?, KB.out]
          have m6 := cell_of (j := 6) KB.out rfl
          have fm6 : W5.frozen? ⟨Br, 6, none⟩ = false := by simp [World.frozen?, KB.out]
          have m7 := cell_of (j := 7) KB.out rfl
          have fm7 : W5.frozen? ⟨Br, 7, none⟩ = false := by simp [World.frozen?, KB.out]
          have m8 := cell_of (j := 8) KB.out rfl
          have fm8 : W5.frozen? ⟨Br, 8, none⟩ = false := by simp [World.frozen?, KB.out]
          go_wp2_with fail
          refine nameG (p := fun W => bodyPost Try.prog Try.f30 _ Exit.ret _ W) fun W7 hW7 => ?_
          have hk7 : W7.heap[Br]? = some (.cells #[.slice cA n cc, .int .i64 thr, .int .u64 (rng : Int), .slice kA m kc, .slice rA nr rc, .slice oA no oc, .map (some bp), .map (some bc), .bool z] 89 (0, 0)) := by
            have hx := (Blk_set (Blk_set (Blk_set (Blk_set (Blk_set (Blk_set (Blk_set (Blk_set (Blk_set KB.out (j := 0) (.slice cA n cc)) (j := 1) (.int .i64 thr)) (j := 2) (.int .u64 (rng : Int))) (j := 3) (.slice kA m kc)) (j := 4) (.slice rA nr rc)) (j := 5) (.slice oA no oc)) (j := 6) (.map (some bp))) (j := 7) (.map (some bc))) (j := 8) (.bool z))
            rw [hW7.out, hx]; rfl
          have j0 := cell_of (j := 0) hk7 rfl
          have j1 := cell_of (j := 1) hk7 rfl
          have j2 := cell_of (j := 2) hk7 rfl
          have j3 := cell_of (j := 3) hk7 rfl
          have j4 := cell_of (j := 4) hk7 rfl
          have j5 := cell_of (j := 5) hk7 rfl
          have j6 := cell_of (j := 6) hk7 rfl
          have j7 := cell_of (j := 7) hk7 rfl
          have j8 := cell_of (j := 8) hk7 rfl
          refine bodyPost_ret (v := .agg #[.slice cA n cc, .int .i64 thr, .int .u64 (rng : Int), .slice kA m kc, .slice rA nr rc, .slice oA no oc, .map (some bp), .map (some bc), .bool z]) (by simp [results, Try.results30, go_sem, j0, j1, j2, j3, j4, j5, j6, j7, j8]) rfl ?_
          have hb7 : Below w.heap.size w W7 := by rw [hW7.out]; exact (((((((((HB5.out.setCell (by show w.heap.size ≤ Br; omega) _).setCell (by show w.heap.size ≤ Br; omega) _).setCell (by show w.heap.size ≤ Br; omega) _).setCell (by show w.heap.size ≤ Br; omega) _).setCell (by show w.heap.size ≤ Br; omega) _).setCell (by show w.heap.size ≤ Br; omega) _).setCell (by show w.heap.size ≤ Br; omega) _).setCell (by show w.heap.size ≤ Br; omega) _).setCell (by show w.heap.size ≤ Br; omega) _)
          have hp7 : W7.heap[bp]? = W5.heap[bp]? := by
            rw [hW7.out]
            repeat rw [Below.heap_setCell _ _ _ _ (show bp ≠ Br by omega)]
          have hc7 : W7.heap[bc]? = W5.heap[bc]? := by
            rw [hW7.out]
            repeat rw [Below.heap_setCell _ _ _ _ (show bc ≠ Br by omega)]
          obtain ⟨e1, e2, e3, e4, e5, e6, e7⟩ := HE.out
          have hx := HC5.out.block hc7
          rw [e2] at hx
          refine ⟨_, rfl, ?_, hb7⟩
          rw [e1, e2, e3, e4, e5, e6, e7]
          refine ⟨_, _, _, _, bp, bc, rfl, IsSl.below HI1.out hb7, HI2.out.below hb7, IsSl.below HI3.out hb7, IsSl.below HI4.out hb7, ⟨⟨_, _, HP5.out.block hp7⟩, ⟨_, _, vs, hx, fun i hi => IsSl.below (HVS.out i hi) hb7⟩⟩⟩
end Go.Proofs.Ytgaanndidcdbpaa
/- member, commitFits. -/
namespace Go.Proofs.Ytgaanndidcdbpaa
open Go.RowKit Go.Shelf

theorem Try.zeroI64 (W : World) : (zeroValue 3).run Try.prog W = .ok (.int .i64 0) W := by kernel_rfl
theorem Try.zeroCommit (W : World) : (zeroValue 64).run Try.prog W = .ok (.agg #[.int .i64 0, .slice none 0 0]) W := by kernel_rfl
theorem placeV_has (b : BeaD) (c : Int) : (placeV b.clubs b.clubs.length c).isSome = memB b c := by unfold placeV memB placeD; rw [Option.isSome_map]
set_option maxRecDepth 20000 in
theorem member_any (w : World) (M : Nat → Prop) (v : Value) (b : BeaD) (h : IsBoard w M v b) (c : Int) (hc : W64 c) : Calls Try.prog 57 #[v, .int .i64 c] w fun e w' => e = .returned (.bool (memB b c)) ∧ Below w.heap.size w w' := by
  obtain ⟨cA, cc, kA, kc, rA, rc, oA, oc, bp, bc, rfl, i1, i2, i3, i4, i5⟩ := h.parts
  have HWF := Lib.hid hc.wf
  obtain ⟨pn, pc, hp⟩ := i5.place
  obtain ⟨z, hz⟩ : ∃ z, z = memB b c := ⟨_, rfl⟩
  have hzs := (placeV_has b c).trans hz.symm
  rw [← hz]
  obtain ⟨W1, hW1⟩ : ∃ W1, W1 = w.alloc (.cells #[.slice cA b.clubs.length cc, .int .i64 b.thr, .int .u64 (b.rng : Int), .slice kA b.coms.length kc, .slice rA b.revs.length rc, .slice oA b.opns.length oc, .map (some bp), .map (some bc), .bool (doneB b)] 89 (0, 0)) := ⟨_, rfl⟩
  have hl := (hp.alloc (.cells #[.slice cA b.clubs.length cc, .int .i64 b.thr, .int .u64 (b.rng : Int), .slice kA b.coms.length kc, .slice rA b.revs.length rc, .slice oA b.opns.length oc, .map (some bp), .map (some bc), .bool (doneB b)] 89 (0, 0))).look_ok (Maps.int_keyed Try.underlying3) Try.underlying86 (Try.zeroI64 _) (Maps.keyOf_int_mk Try.underlying3 HWF.out)
  rw [hzs] at hl
  obtain ⟨pv, hpv⟩ : ∃ pv, pv = (placeV b.clubs b.clubs.length c).getD (.int .i64 0) := ⟨_, rfl⟩
  rw [← hpv] at hl
  have hl' : (Instr.lookup 86 (.map (some bp)) (.int .i64 c) true).run Try.prog (w.alloc (.cells #[.slice cA b.clubs.length cc, .int .i64 b.thr, .int .u64 (b.rng : Int), .slice kA b.coms.length kc, .slice rA b.revs.length rc, .slice oA b.opns.length oc, .map (some bp), .map (some bc), .bool (doneB b)] 89 (0, 0))) = .ok (.tuple #[pv, .bool z]) (w.alloc (.cells #[.slice cA b.clubs.length cc, .int .i64 b.thr, .int .u64 (b.rng : Int), .slice kA b.coms.length kc, .slice rA b.revs.length rc, .slice oA b.opns.length oc, .map (some bp), .map (some bc), .bool (doneB b)] 89 (0, 0))) := hl
  clear hl hp hpv hzs hz h i1 i2 i3 i4 i5 hW1 hc
  obtain ⟨n, hn⟩ : ∃ n, n = b.clubs.length := ⟨_, rfl⟩
  obtain ⟨m, hm⟩ : ∃ n, n = b.coms.length := ⟨_, rfl⟩
  obtain ⟨nr, hnr⟩ : ∃ n, n = b.revs.length := ⟨_, rfl⟩
  obtain ⟨no, hno⟩ : ∃ n, n = b.opns.length := ⟨_, rfl⟩
  obtain ⟨thr, hthr⟩ : ∃ n, n = b.thr := ⟨_, rfl⟩
  obtain ⟨rng, hrng⟩ : ∃ n, n = b.rng := ⟨_, rfl⟩
  obtain ⟨dz, hdz⟩ : ∃ n, n = doneB b := ⟨_, rfl⟩
  rw [← hn, ← hm, ← hnr, ← hno, ← hthr, ← hrng, ← hdz] at hl' ⊢
  clear hn hm hnr hno hthr hrng hdz
  go_enter Try.func57, Try.ntmps57
  go_wp2_with fail
  go_ret
  exact ⟨rfl, (Below.refl _ _).alloc (Nat.le_refl _) _⟩
set_option maxRecDepth 100000 in
theorem cf1_any (c : Nat) (w : World) : Calls Try.prog 83 #[.int .u64 c] w fun e w' => e = .returned (.bool (!elOk c)) ∧ Below w.heap.size w w' := by
  by_cases h0 : c = 0
  · have b0 : ((c : Int) == 0) = true := by rw [beq_iff_eq]; omega
    have HQ := Lib.hid (show true = !elOk c by unfold elOk; rw [decide_eq_false (by omega)]; rfl)
    clear h0
    go_enter Try.func83, Try.ntmps83
    go_wp2_with fail
    go_ret
    exact ⟨ret_bool HQ.out, Below.refl _ _⟩
  have b0 : ((c : Int) == 0) = false := by rw [beq_eq_false_iff_ne]; omega
  by_cases h2 : c < 2305843009213691579
  · have b2 : decide ((2305843009213691579 : Int) ≤ (c : Int)) = false := by rw [decide_eq_false_iff_not]; omega
    have C := Lib.hid (Pow_any c 1152921504606845789 (by decide) w)
    have he : (!elOk c) = (((pw c 1152921504606845789 : Nat) : Int) != 1) := by
      unfold elOk
      rw [decide_eq_true (show 1 ≤ c by omega), decide_eq_true h2, Bool.true_and, Bool.true_and]
      generalize pw c 1152921504606845789 = y
      by_cases hy : y = 1
      · rw [hy]; rfl
      · rw [show Nat.beq y 1 = false from Bool.eq_false_iff.2 fun e => hy (Nat.eq_of_beq_eq_true e), show ((y : Int) != 1) = true by rw [bne_iff_ne]; omega]; rfl
    rw [he]
    obtain ⟨z, hz⟩ : ∃ z, pw c 1152921504606845789 = z := ⟨_, rfl⟩
    rw [hz] at C ⊢
    clear h0 h2 he hz
    go_enter Try.func83, Try.ntmps83
    go_wp2_with fail
    refine C.out.mono ?_
    rintro e w' ⟨rfl, n, rfl⟩
    go_wp2_with fail
    go_ret
    exact ⟨rfl, below_drewN (Below.refl _ _) n⟩
  · have b2 : decide ((2305843009213691579 : Int) ≤ (c : Int)) = true := by rw [decide_eq_true_eq]; omega
    have HQ := Lib.hid (show true = !elOk c by unfold elOk; rw [decide_eq_false h2]; simp)
    clear h0 h2
    go_enter Try.func83, Try.ntmps83
    go_wp2_with fail
    go_ret
    exact ⟨ret_bool HQ.out, Below.refl _ _⟩
/-- a commitment in memory -/
def IsCom (w : World) (M : Nat → Prop) (v : Value) (c : ComD) : Prop := ∃ u, v = .agg #[.int .i64 c.club, u] ∧ IsU64 w M u c.checks
set_option maxRecDepth 20000 in
set_option maxHeartbeats 4000000 in
theorem commitFits_any (w : World) (M M' : Nat → Prop) (v u : Value) (b : BeaD) (c : ComD) (h : IsBoard w M v b) (h' : IsCom w M' u c) (hc : W64 c.club) (hl : c.checks.length ≤ 140737488355328) : Calls Try.prog 46 #[v, u] w fun e w' => e = .returned (.bool (comB b c)) ∧ Below w.heap.size w w' := by
  have HBD := Lib.hid h
  obtain ⟨cA, cc, kA, kc, rA, rc, oA, oc, bp, bc, rfl, i1, i2, i3, i4, i5⟩ := h.parts
  obtain ⟨ku, rfl, hk⟩ := h'
  obtain ⟨uA, uc, rfl, -⟩ := id hk
  have HK := Lib.hid hk
  have HC64 := Lib.hid hc
  obtain ⟨z, hz⟩ : ∃ z, z = comB b c := ⟨_, rfl⟩
  have HZ := Lib.hid (show z = (memB b c.club && (decide ((c.checks.length : Int) = b.thr) && c.checks.all elOk)) from hz)
  rw [← hz]
  have D1 := Lib.hid (fun (W : World) (hb : Below w.heap.size w W) => Lib.hid (member_any W M _ b (HBD.out.below hb) c.club HC64.out))
  have D2 := Lib.hid (fun (W : World) (hb : Below w.heap.size w W) => Lib.hid (show Calls Try.prog 58 _ W fun e w' => e = .returned (.bool (!c.checks.all elOk)) ∧ Below W.heap.size W w' by
    obtain ⟨A', c', e, h1, h2, h3⟩ := IsSl.below HK.out hb
    cases e
    have x := containsFunc1_any W M' _ c.checks.length uc _ hl h3 (fun i _ => ⟨_, rfl⟩) 83 #[] (fun i => !elOk (c.checks.getD i 0)) (enters_of Try.func83 (by kernel_rfl) rfl) (fun i hi wr _ => cf1_any (c.checks.getD i 0) wr)
    rw [range_any c.checks 0 (fun x => !elOk x)] at x
    have e2 : (c.checks.any fun x => !elOk x) = !c.checks.all elOk := by rw [← not_any_not, Bool.not_not]
    rw [e2] at x
    exact x))
  clear h i1 i2 i3 i4 i5 hz hk hc
  obtain ⟨n, hn⟩ : ∃ n, n = b.clubs.length := ⟨_, rfl⟩
  obtain ⟨m, hm⟩ : ∃ n, n = b.coms.length := ⟨_, rfl⟩
  obtain ⟨nr, hnr⟩ : ∃ n, n = b.revs.length := ⟨_, rfl⟩
  obtain ⟨no, hno⟩ : ∃ n, n = b.opns.length := ⟨_, rfl⟩
  obtain ⟨thr, hthr⟩ : ∃ n, n = b.thr := ⟨_, rfl⟩
  obtain ⟨rng, hrng⟩ : ∃ n, n = b.rng := ⟨_, rfl⟩
  obtain ⟨dz, hdz⟩ : ∃ n, n = doneB b := ⟨_, rfl⟩
  obtain ⟨cx, hcx⟩ : ∃ x, x = c.club := ⟨_, rfl⟩
  obtain ⟨ul, hul⟩ : ∃ x, x = c.checks.length := ⟨_, rfl⟩
  have HE := Lib.hid (And.intro hthr (And.intro hcx hul))
  rw [← hul] at D2 hl HZ ⊢
  rw [← hcx] at D1 HZ ⊢
  rw [← hthr] at HZ
  rw [← hn, ← hm, ← hnr, ← hno, ← hthr, ← hrng, ← hdz] at D1 ⊢
  obtain ⟨mb, hmb⟩ : ∃ x, x = memB b cx := ⟨_, rfl⟩
  obtain ⟨el, hel⟩ : ∃ x, x = c.checks.all elOk := ⟨_, rfl⟩
  rw [← hmb] at D1 HZ
  rw [← hel] at D2 HZ
  clear hn hm hnr hno hthr hrng hdz hcx hul hmb hel
  go_enter Try.func46, Try.ntmps46
  go_upto_region 1 with fail
  refine nameC fun W1 hW1 => ?_
  have hb1 : Below w.heap.size w W1 := by rw [hW1.out]; exact ((Below.refl _ _).alloc (Nat.le_refl _) _).alloc (by simp) _
  have k0 : W1.heap[w.heap.size]? = some (.cells #[.slice cA n cc, .int .i64 thr, .int .u64 (rng : Int), .slice kA m kc, .slice rA nr rc, .slice oA no oc, .map (some bp), .map (some bc), .bool dz] 89 (0, 0)) := by rw [hW1.out]; simp only [heap_alloc_if, World.size_alloc]; rw [if_neg (by omega)]; rw [if_pos trivial]
  have k1 : W1.heap[w.heap.size + 1]? = some (.cells #[.int .i64 cx, .slice uA ul uc] 64 (0, 0)) := by rw [hW1.out]; simp only [heap_alloc_if, World.size_alloc]; rw [if_pos trivial]
  obtain ⟨B1, hB1⟩ : ∃ B, B = w.heap.size + 1 := ⟨_, rfl⟩
  rw [← hB1] at k1 ⊢
  have HC := Lib.hid (show ∀ W', Below W1.heap.size W1 W' → (W'.cell? ⟨w.heap.size, 0, none⟩ = some (.slice cA n cc) ∧ W'.cell? ⟨w.heap.size, 1, none⟩ = some (.int .i64 thr) ∧ W'.cell? ⟨w.heap.size, 2, none⟩ = some (.int .u64 (rng : Int)) ∧ W'.cell? ⟨w.heap.size, 3, none⟩ = some (.slice kA m kc) ∧ W'.cell? ⟨w.heap.size, 4, none⟩ = some (.slice rA nr rc) ∧ W'.cell? ⟨w.heap.size, 5, none⟩ = some (.slice oA no oc) ∧ W'.cell? ⟨w.heap.size, 6, none⟩ = some (.map (some bp)) ∧ W'.cell? ⟨w.heap.size, 7, none⟩ = some (.map (some bc)) ∧ W'.cell? ⟨w.heap.size, 8, none⟩ = some (.bool dz) ∧ W'.cell? ⟨B1, 0, none⟩ = some (.int .i64 cx) ∧ W'.cell? ⟨B1, 1, none⟩ = some (.slice uA ul uc)) from fun W' h => by
    have e0 := (h.block _ (lt_heap k0)).trans k0
    have e1 := (h.block _ (lt_heap k1)).trans k1
    exact ⟨cell_of e0 rfl, cell_of e0 rfl, cell_of e0 rfl, cell_of e0 rfl, cell_of e0 rfl, cell_of e0 rfl, cell_of e0 rfl, cell_of e0 rfl, cell_of e0 rfl, cell_of e1 rfl, cell_of e1 rfl⟩)
  have HB1 := Lib.hid hb1
  clear hW1 hb1 k0 k1 hB1
  obtain ⟨r0, r1, r2, r3, r4, r5, r6, r7, r8, c0, c1⟩ := HC.out _ (Below.refl _ _)
  go_wp2_with fail
  refine (D1.out _ HB1.out).out.mono ?_
  rintro e W2 ⟨rfl, hb⟩
  have HB2 := Lib.hid hb
  clear hb r0 r1 r2 r3 r4 r5 r6 r7 r8 c0 c1
  obtain ⟨r0, r1, r2, r3, r4, r5, r6, r7, r8, c0, c1⟩ := HC.out _ HB2.out
  cases mb
  · have HQ := Lib.hid (show false = z by rw [HZ.out]; rfl)
    go_wp2_with fail
    go_ret
    exact ⟨ret_bool HQ.out, HB1.out.trans (HB2.out.mono HB1.out.size)⟩
  by_cases ht : (ul : Int) = thr
  case neg =>
    have t1 : ((ul : Int) == thr) = false := by rw [beq_eq_false_iff_ne]; exact ht
    have HQ := Lib.hid (show false = z by rw [HZ.out, decide_eq_false ht]; rfl)
    clear ht
    go_wp2_with fail
    go_ret
    exact ⟨ret_bool HQ.out, HB1.out.trans (HB2.out.mono HB1.out.size)⟩
  have t1 : ((ul : Int) == thr) = true := by rw [beq_iff_eq]; exact ht
  have HQ := Lib.hid (show (!!el) = z by rw [HZ.out, decide_eq_true ht, Bool.not_not]; rfl)
  clear ht
  go_wp2_with fail
  refine (D2.out _ (HB1.out.trans (HB2.out.mono HB1.out.size))).out.mono ?_
  rintro e W3 ⟨rfl, hb⟩
  have HB3 := Lib.hid (HB2.out.trans (hb.mono HB2.out.size))
  clear hb
  go_wp2_with fail
  go_ret
  exact ⟨ret_bool (by have := HQ.out; rw [← this]; first | rfl | simp), HB1.out.trans (HB3.out.mono HB1.out.size)⟩
end Go.Proofs.Ytgaanndidcdbpaa
/- One operation of a drawn region with guards, its slot written out, for any seat. -/
namespace Go.Proofs.Ytgaanndidcdbpaa
open Go.RowKit
section
variable {P : Program} {ops : Array Oper} {Q : Exit → Act → World → Prop} {md : Region.Mode} {S : World → Prop}
theorem takeD {i : Nat} {oi : Oper} {d : Option Tmp} {v : Value} {fuel : Nat} {listed : Array Bool} {a : Act} {w : World} (hi : ops[i]? = some oi) (hd : oi.dst = d)
    (hs : Region.noSelect ops = true) (hf : Region.free md ops listed i = true) (hr : (Region.ready md ops listed).contains i = true)
    (hQ : ∀ c a w, Q (.panic c) (a.put d v) w → Q (.panic c) a w) (hy : YieldsIf P ops S oi v a) (hS : S w)
    (h : wpAnyH P md ops Q S fuel (listed.setIfInBounds i true) (a.put d v) w) : wpAnyH P md ops Q S (fuel + 1) listed a w :=
  wpAnyH_take hi hs hf hr (by rw [hd]; exact hQ) hy hS (by rw [hd]; exact h)
end
end Go.Proofs.Ytgaanndidcdbpaa
