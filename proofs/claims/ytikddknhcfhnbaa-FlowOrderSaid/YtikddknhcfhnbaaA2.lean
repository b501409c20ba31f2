/- Check of package flow. -/
import Derived.Test.YtikddknhcfhnbaaA1
namespace Go.Proofs.Ytikddknhcfhnbaa
open Go.RowKit
set_option maxHeartbeats 1000000 in
theorem fcheck_any (w : World) (M : Nat → Prop) (v : Value) (n : NetD) (h : IsNet w M v n) : Calls Try.prog 16 #[v] w (RetE (chkF n) w) := by
  obtain ⟨v2, rfl, h⟩ := h
  have H := Lib.hid h
  obtain ⟨A, c, rfl, h1, h2, -⟩ := h
  have HNo := Lib.hid (@chkF_no n)
  have HYes := Lib.hid (@chkF_yes n)
  obtain ⟨z, hz⟩ : ∃ z, z = chkF n := ⟨_, rfl⟩
  rw [← hz] at HNo HYes ⊢
  clear hz
  obtain ⟨V, hV⟩ : ∃ V, V = n.vs := ⟨_, rfl⟩
  rw [← hV]
  by_cases t1 : V < 2
  · have HZ := Lib.hid (HNo.out (sizeN_no1 (hV ▸ t1)))
    clear hV
    go_enter Try.func16, Try.ntmps16
    go_wp2_with fail
    go_ret
    exact ⟨ret_int HZ.out.symm, (Below.refl _ _).alloc (Nat.le_refl _) _⟩
  by_cases t2 : 512 < V
  · have HZ := Lib.hid (HNo.out (sizeN_no2 (hV ▸ t2)))
    clear hV
    go_enter Try.func16, Try.ntmps16
    go_wp2_with fail
    go_ret
    exact ⟨ret_int HZ.out.symm, (Below.refl _ _).alloc (Nat.le_refl _) _⟩
  by_cases t5 : (4096 : Int) < (n.arcs.length : Int)
  · have HZ := Lib.hid (HNo.out (sizeN_no3 (by omega)))
    clear hV
    go_enter Try.func16, Try.ntmps16
    go_wp2_with fail
    go_ret
    exact ⟨ret_int HZ.out.symm, (Below.refl _ _).alloc (Nat.le_refl _) _⟩
  have HSZ := Lib.hid (sizeN_yes (hV ▸ t1) (hV ▸ t2) (by omega))
  have HEdge := fun k (hk : k < n.arcs.length) (h : okA n.vs (nthA n.arcs k) = false) => Lib.hid (HNo.out (chkN_bad hk h))
  rw [← hV] at HEdge
  have HST := Lib.hid (fun k (h : arcsTo n k) (hk : okA V (nthA n.arcs k) = true) => arcsTo_succ h (hV ▸ hk))
  clear hV
  have hV1 : IntKind.i64.wrap (V - 1) = V - 1 := IntWalk.i64_in _ (by omega)
  go_enter Try.func16, Try.ntmps16
  go_wp2_with fail
  go_loopw [22] (fun q wr => ∃ k : Nat, k ≤ n.arcs.length ∧ q = .int .i64 (k : Int) ∧ Hid (arcsTo n k) ∧ Hid (Below w.heap.size w wr) ∧ wr.heap[w.heap.size]? = some (.cells #[.int .i64 V, .slice A n.arcs.length c] 24 (0, 0))) (fun q _ => n.arcs.length - (intOf q).toNat)
  case atStart => exact ⟨0, Nat.zero_le _, rfl, Lib.hid arcsTo_zero, Lib.hid ((Below.refl w.heap.size w).alloc (Nat.le_refl _) _), by simp only [heap_alloc_if]; rw [if_pos trivial]⟩
  case round =>
    obtain ⟨k, hk, rfl, HT, HB, hbox⟩ := hrel
    have HX := Lib.hid hbox
    have hbl := lt_heap hbox
    have g0 := cell_of (j := 0) hbox rfl
    have g1 := cell_of (j := 1) hbox rfl
    clear hbox
    by_cases hlt : k < n.arcs.length
    · have hlt2 : (k : Int) < (n.arcs.length : Int) := by omega
      have hk0 : (0 : Int) ≤ (k : Int) := by omega
      obtain ⟨b, off, rfl, hb, e0, e1, e2⟩ := H.out.at_ HB.out hlt
      have hbw : b < wr.heap.size := Nat.lt_of_lt_of_le hb HB.out.size
      have HE := HEdge k hlt
      have HS := Lib.hid (HST.out k HT.out)
      obtain ⟨a, ha⟩ : ∃ a, a = nthA n.arcs k := ⟨_, rfl⟩
      rw [← ha] at e0 e1 e2 HE HS
      obtain ⟨x, y, u⟩ := a
      clear ha HEdge HST
      dsimp only at e0 e1 e2
      by_cases s0 : x < 0
      · have ds0 : decide (x < 0) = true := decide_eq_true s0
        have HZ := HE (okA_no (by intro hh; obtain ⟨p1, p2, p3, p4, p5, p6, p7⟩ := hh; dsimp only at p1 p2 p3 p4 p5 p6 p7; omega))
        clear HE HS
        go_wp2_with fail
        go_ret
        exact ⟨ret_int HZ.out.symm, HB.out.trans (Below.mono (by repeat (first | exact Below.refl _ _ | refine Below.drew ?_ | refine below_drewN ?_ _ | refine Below.alloc ?_ (by first | exact Nat.le_refl _ | (simp; done) | (simp; omega)) _)) HB.out.size)⟩
      have ds0 : decide (x < 0) = false := decide_eq_false s0
      by_cases s1 : V - 1 ≤ x
      · have ds1 : decide (V - 1 ≤ x) = true := decide_eq_true s1
        have HZ := HE (okA_no (by intro hh; obtain ⟨p1, p2, p3, p4, p5, p6, p7⟩ := hh; dsimp only at p1 p2 p3 p4 p5 p6 p7; omega))
        clear HE HS
        go_wp2_with fail
        go_ret
        exact ⟨ret_int HZ.out.symm, HB.out.trans (Below.mono (by repeat (first | exact Below.refl _ _ | refine Below.drew ?_ | refine below_drewN ?_ _ | refine Below.alloc ?_ (by first | exact Nat.le_refl _ | (simp; done) | (simp; omega)) _)) HB.out.size)⟩
      have ds1 : decide (V - 1 ≤ x) = false := decide_eq_false s1
      by_cases s2 : y ≤ 0
      · have ds2 : decide (y ≤ 0) = true := decide_eq_true s2
        have HZ := HE (okA_no (by intro hh; obtain ⟨p1, p2, p3, p4, p5, p6, p7⟩ := hh; dsimp only at p1 p2 p3 p4 p5 p6 p7; omega))
        clear HE HS
        go_wp2_with fail
        go_ret
        exact ⟨ret_int HZ.out.symm, HB.out.trans (Below.mono (by repeat (first | exact Below.refl _ _ | refine Below.drew ?_ | refine below_drewN ?_ _ | refine Below.alloc ?_ (by first | exact Nat.le_refl _ | (simp; done) | (simp; omega)) _)) HB.out.size)⟩
      have ds2 : decide (y ≤ 0) = false := decide_eq_false s2
      by_cases s3 : V ≤ y
      · have ds3 : decide (V ≤ y) = true := decide_eq_true s3
        have HZ := HE (okA_no (by intro hh; obtain ⟨p1, p2, p3, p4, p5, p6, p7⟩ := hh; dsimp only at p1 p2 p3 p4 p5 p6 p7; omega))
        clear HE HS
        go_wp2_with fail
        go_ret
        exact ⟨ret_int HZ.out.symm, HB.out.trans (Below.mono (by repeat (first | exact Below.refl _ _ | refine Below.drew ?_ | refine below_drewN ?_ _ | refine Below.alloc ?_ (by first | exact Nat.le_refl _ | (simp; done) | (simp; omega)) _)) HB.out.size)⟩
      have ds3 : decide (V ≤ y) = false := decide_eq_false s3
      by_cases s4 : x = y
      · have ds4 : (x == y) = true := by rw [beq_iff_eq]; exact s4
        have HZ := HE (okA_no (by intro hh; obtain ⟨p1, p2, p3, p4, p5, p6, p7⟩ := hh; dsimp only at p1 p2 p3 p4 p5 p6 p7; omega))
        clear HE HS
        go_wp2_with fail
        go_ret
        exact ⟨ret_int HZ.out.symm, HB.out.trans (Below.mono (by repeat (first | exact Below.refl _ _ | refine Below.drew ?_ | refine below_drewN ?_ _ | refine Below.alloc ?_ (by first | exact Nat.le_refl _ | (simp; done) | (simp; omega)) _)) HB.out.size)⟩
      have ds4 : (x == y) = false := by rw [beq_eq_false_iff_ne]; exact s4
      by_cases s5 : u < 0
      · have ds5 : decide (u < 0) = true := decide_eq_true s5
        have HZ := HE (okA_no (by intro hh; obtain ⟨p1, p2, p3, p4, p5, p6, p7⟩ := hh; dsimp only at p1 p2 p3 p4 p5 p6 p7; omega))
        clear HE HS
        go_wp2_with fail
        go_ret
        exact ⟨ret_int HZ.out.symm, HB.out.trans (Below.mono (by repeat (first | exact Below.refl _ _ | refine Below.drew ?_ | refine below_drewN ?_ _ | refine Below.alloc ?_ (by first | exact Nat.le_refl _ | (simp; done) | (simp; omega)) _)) HB.out.size)⟩
      have ds5 : decide (u < 0) = false := decide_eq_false s5
      by_cases s6 : 1073741824 < u
      · have ds6 : decide (1073741824 < u) = true := decide_eq_true s6
        have HZ := HE (okA_no (by intro hh; obtain ⟨p1, p2, p3, p4, p5, p6, p7⟩ := hh; dsimp only at p1 p2 p3 p4 p5 p6 p7; omega))
        clear HE HS
        go_wp2_with fail
        go_ret
        exact ⟨ret_int HZ.out.symm, HB.out.trans (Below.mono (by repeat (first | exact Below.refl _ _ | refine Below.drew ?_ | refine below_drewN ?_ _ | refine Below.alloc ?_ (by first | exact Nat.le_refl _ | (simp; done) | (simp; omega)) _)) HB.out.size)⟩
      have ds6 : decide (1073741824 < u) = false := decide_eq_false s6
      have HN := Lib.hid (HS.out (okA_iff.2 (by refine ⟨?_, ?_, ?_, ?_, ?_, ?_, ?_⟩ <;> dsimp only <;> omega)))
      clear HE HS
      go_wp2_with fail
      exact ⟨⟨k + 1, by omega, by go_num, HN, Lib.hid (HB.out.trans (Below.mono (by repeat (first | exact Below.refl _ _ | refine Below.drew ?_ | refine below_drewN ?_ _ | refine Below.alloc ?_ (by first | exact Nat.le_refl _ | (simp; done) | (simp; omega)) _)) HB.out.size)), (Below.block (w := wr) (B := wr.heap.size) (by repeat (first | exact Below.refl _ _ | refine Below.drew ?_ | refine below_drewN ?_ _ | refine Below.alloc ?_ (by first | exact Nat.le_refl _ | (simp; done) | (simp; omega)) _)) w.heap.size hbl).trans HX.out⟩, by simp [intOf]; omega⟩
    · have hnl : ¬ (k : Int) < (n.arcs.length : Int) := by omega
      obtain rfl : k = n.arcs.length := by omega
      have HN := Lib.hid (HYes.out (chkN_all HSZ.out HT.out))
      go_wp2_with fail
      go_ret
      exact ⟨ret_int HN.out.symm, HB.out⟩
end Go.Proofs.Ytikddknhcfhnbaa
