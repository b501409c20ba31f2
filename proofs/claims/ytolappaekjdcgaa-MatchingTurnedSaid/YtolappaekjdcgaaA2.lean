/- slices.BinarySearchFunc on edges. -/
import Derived.Test.YtolappaekjdcgaaA1
import Derived.Deep.DeepCutAuto
namespace Go.Proofs.Ytolappaekjdcgaa
open Go.RowKit
/-- the middle: the word of the code -/
theorem mid_word {i j : Nat} (hi : i ≤ j) (hj : j ≤ 4096) : IntKind.i64.wrap (IntKind.u64.wrap (IntKind.u64.wrap ((i : Int) + (j : Int)) / 2)) = (((i + j) / 2 : Nat) : Int) := by
  unfold IntKind.wrap IntKind.bits IntKind.signed
  simp
  omega
theorem ret_tup {i : Int} {a b : Bool} (h : a = b) : Ending.returned (.tuple #[.int .i64 i, .bool a]) = .returned (.tuple #[.int .i64 i, .bool b]) := by rw [h]
def SrchW (l : List (Int × Int)) (t : Int × Int) (w : World) (e : Ending) (w' : World) : Prop := ∃ i : Nat, IsLow l t i ∧ e = .returned (.tuple #[.int .i64 (i : Int), .bool (l.contains t)]) ∧ Below w.heap.size w w'
set_option maxHeartbeats 1000000 in
theorem search_any (w : World) (M : Nat → Prop) (v : Value) (l : List (Int × Int)) (h : IsEdges w M v l) (hs : SrtE l) (hlen : l.length ≤ 4096) (t : Int × Int) :
    Calls Try.prog 26 #[v, .agg #[.int .i64 t.1, .int .i64 t.2], .func (.func 24) #[] #[]] w (SrchW l t w) := by
  have H := Lib.hid h
  have HS := Lib.hid hs
  obtain ⟨A, c, rfl, h1, h2, -⟩ := h
  clear hs
  go_enter Try.func26, Try.ntmps26
  go_wp2_with fail
  go_loopw [9, 10] (fun q9 q10 wr => ∃ i j : Nat, q9 = .int .i64 (i : Int) ∧ q10 = .int .i64 (j : Int) ∧ i ≤ j ∧ j ≤ l.length ∧ Hid (Srch l t i j) ∧ Hid (Below w.heap.size w wr) ∧ wr.heap[w.heap.size]? = some (.cells #[.int .i64 t.1, .int .i64 t.2] 46 (0, 0))) (fun q9 q10 _ => (intOf q10).toNat - (intOf q9).toNat)
  case atStart => exact ⟨0, l.length, rfl, rfl, Nat.zero_le _, Nat.le_refl _, Lib.hid (Srch.start _ _), Lib.hid ((Below.refl w.heap.size w).alloc (Nat.le_refl _) _), by simp only [heap_alloc_if]; rw [if_pos trivial]⟩
  case round =>
    obtain ⟨i, j, rfl, rfl, hij, hjl, HR, HB, hbox⟩ := hrel
    have HX := Lib.hid hbox
    have hbl := lt_heap hbox
    have c0 := cell_of (j := 0) hbox rfl
    have c1 := cell_of (j := 1) hbox rfl
    clear hbox
    by_cases hlt : i < j
    · obtain ⟨m, hm⟩ : ∃ m, m = (i + j) / 2 := ⟨_, rfl⟩
      have hmid : ((i : Int) + (j : Int)) / 2 = (m : Int) := by omega
      have him : i ≤ m := by omega
      have hmj : m < j := by omega
      clear hm
      have hml : m < l.length := by omega
      have hml2 : (m : Int) < (l.length : Int) := by omega
      have hm0 : (0 : Int) ≤ (m : Int) := by omega
      obtain ⟨b, off, rfl, hb, e0, e1⟩ := H.out.at_ HB.out hml
      rw [← nthE_get hml] at e0 e1
      have HU := Lib.hid (fun k => HR.out.up HS.out hmj k)
      have HD := Lib.hid (fun k => HR.out.down HS.out him hmj k)
      obtain ⟨a, ha⟩ : ∃ a, a = nthE l m := ⟨_, rfl⟩
      rw [← ha] at e0 e1 HU HD
      have CO := fun W => Lib.hid (order_any W a t)
      obtain ⟨r, hr⟩ : ∃ r, r = ordE a t := ⟨_, rfl⟩
      rw [← hr] at HU HD CO
      clear ha hr
      have hbw : b < wr.heap.size := Nat.lt_of_lt_of_le hb HB.out.size
      by_cases hr0 : r < 0
      · have HN := Lib.hid (HU.out hr0)
        go_wp2_with fail
        go_region_held3 (fun w' => w'.cell? ⟨b, off + m * 2, none⟩ = some (.int .i64 a.1) ∧ w'.cell? ⟨b, off + m * 2 + 1, none⟩ = some (.int .i64 a.2) ∧ w'.cell? ⟨w.heap.size, 0, none⟩ = some (.int .i64 t.1) ∧ w'.cell? ⟨w.heap.size, 1, none⟩ = some (.int .i64 t.2)) (first | with_reducible exact ⟨e0, e1, c0, c1⟩ | with_reducible exact ⟨s0, s1, s2, s3⟩ | go_keep) ((go_at_call 24; refine (CO _).out.mono ?_; rintro e w9 ⟨rfl, hb9⟩; have hB9 : Below wr.heap.size wr w9 := Below.trans (by repeat (first | exact Below.refl _ _ | refine Below.drew ?_)) (hb9.mono (by first | exact Nat.le_refl _ | (simp; done))); have s0 := (hB9.cell (p := ⟨b, off + m * 2, none⟩) hbw).trans e0; have s1 := (hB9.cell (p := ⟨b, off + m * 2 + 1, none⟩) hbw).trans e1; have s2 := (hB9.cell (p := ⟨w.heap.size, 0, none⟩) hbl).trans c0; have s3 := (hB9.cell (p := ⟨w.heap.size, 1, none⟩) hbl).trans c1; have HB9 := Lib.hid hB9; clear hb9 hB9))
        have HBF := Lib.hid (HB.out.trans (HB9.out.mono HB.out.size))
        have hxf := (HB9.out.block w.heap.size hbl).trans HX.out
        clear HB9 HB HX s0 s1 s2 s3 c0 c1 e0 e1 CO HU HD
        go_wp2_with fail
        go_roundw
        case rel => exact ⟨m + 1, j, by go_num, rfl, by omega, hjl, HN, HBF, hxf⟩
        case measure => simp [intOf]; omega
      · have HN := Lib.hid (HD.out hr0)
        have hr1 : ¬ r < 0 := hr0
        go_wp2_with fail
        go_region_held3 (fun w' => w'.cell? ⟨b, off + m * 2, none⟩ = some (.int .i64 a.1) ∧ w'.cell? ⟨b, off + m * 2 + 1, none⟩ = some (.int .i64 a.2) ∧ w'.cell? ⟨w.heap.size, 0, none⟩ = some (.int .i64 t.1) ∧ w'.cell? ⟨w.heap.size, 1, none⟩ = some (.int .i64 t.2)) (first | with_reducible exact ⟨e0, e1, c0, c1⟩ | with_reducible exact ⟨s0, s1, s2, s3⟩ | go_keep) ((go_at_call 24; refine (CO _).out.mono ?_; rintro e w9 ⟨rfl, hb9⟩; have hB9 : Below wr.heap.size wr w9 := Below.trans (by repeat (first | exact Below.refl _ _ | refine Below.drew ?_)) (hb9.mono (by first | exact Nat.le_refl _ | (simp; done))); have s0 := (hB9.cell (p := ⟨b, off + m * 2, none⟩) hbw).trans e0; have s1 := (hB9.cell (p := ⟨b, off + m * 2 + 1, none⟩) hbw).trans e1; have s2 := (hB9.cell (p := ⟨w.heap.size, 0, none⟩) hbl).trans c0; have s3 := (hB9.cell (p := ⟨w.heap.size, 1, none⟩) hbl).trans c1; have HB9 := Lib.hid hB9; clear hb9 hB9))
        have HBF := Lib.hid (HB.out.trans (HB9.out.mono HB.out.size))
        have hxf := (HB9.out.block w.heap.size hbl).trans HX.out
        clear HB9 HB HX s0 s1 s2 s3 c0 c1 e0 e1 CO HU HD
        go_wp2_with fail
        go_roundw
        case rel => exact ⟨i, m, rfl, rfl, him, by omega, HN, HBF, hxf⟩
        case measure => simp [intOf]; omega
    · obtain rfl : i = j := by omega
      have hnlt : ¬ (i : Int) < (i : Int) := by omega
      have HL := Lib.hid HR.out.low
      by_cases hil : i < l.length
      · obtain ⟨b, off, rfl, hb, e0, e1⟩ := H.out.at_ HB.out hil
        have hil2 : (i : Int) < (l.length : Int) := by omega
        have hdl : decide ((i : Int) < (l.length : Int)) = true := decide_eq_true hil2
        have hi0 : (0 : Int) ≤ (i : Int) := by omega
        rw [← nthE_get hil] at e0 e1
        have HY := Lib.hid (fun e => IsLow.yes (t := t) hil e)
        have HNo := Lib.hid (fun e => HL.out.no HS.out (fun _ => e))
        obtain ⟨a, ha⟩ : ∃ a, a = nthE l i := ⟨_, rfl⟩
        rw [← ha] at e0 e1 HY HNo
        have CO := fun W => Lib.hid (order_any W a t)
        obtain ⟨r, hr⟩ : ∃ r, r = ordE a t := ⟨_, rfl⟩
        rw [← hr] at HY HNo CO
        clear ha hr
        have hbw : b < wr.heap.size := Nat.lt_of_lt_of_le hb HB.out.size
        have HF : Hid ((r == 0) = l.contains t) := Lib.hid (by
          by_cases e : r = 0
          · rw [HY.out e, e]; rfl
          · rw [HNo.out e, beq_eq_false_iff_ne]; exact e)
        clear HY HNo hnlt
        go_wp2_with fail
        go_region_held3 (fun w' => w'.cell? ⟨b, off + i * 2, none⟩ = some (.int .i64 a.1) ∧ w'.cell? ⟨b, off + i * 2 + 1, none⟩ = some (.int .i64 a.2) ∧ w'.cell? ⟨w.heap.size, 0, none⟩ = some (.int .i64 t.1) ∧ w'.cell? ⟨w.heap.size, 1, none⟩ = some (.int .i64 t.2)) (first | with_reducible exact ⟨e0, e1, c0, c1⟩ | with_reducible exact ⟨s0, s1, s2, s3⟩ | go_keep) ((go_at_call 24; refine (CO _).out.mono ?_; rintro e w9 ⟨rfl, hb9⟩; have hB9 : Below wr.heap.size wr w9 := Below.trans (by repeat (first | exact Below.refl _ _ | refine Below.drew ?_)) (hb9.mono (by first | exact Nat.le_refl _ | (simp; done))); have s0 := (hB9.cell (p := ⟨b, off + i * 2, none⟩) hbw).trans e0; have s1 := (hB9.cell (p := ⟨b, off + i * 2 + 1, none⟩) hbw).trans e1; have s2 := (hB9.cell (p := ⟨w.heap.size, 0, none⟩) hbl).trans c0; have s3 := (hB9.cell (p := ⟨w.heap.size, 1, none⟩) hbl).trans c1; have HB9 := Lib.hid hB9; clear hb9 hB9))
        have HBF := Lib.hid (HB.out.trans (HB9.out.mono HB.out.size))
        clear HB9 HB HX s0 s1 s2 s3 c0 c1 e0 e1 CO
        go_wp2_with fail
        go_ret2
        exact ⟨i, HL.out, ret_tup HF.out, HBF.out⟩
      · have hil2 : ¬ (i : Int) < (l.length : Int) := by omega
        have hdl : decide ((i : Int) < (l.length : Int)) = false := decide_eq_false hil2
        have HF : Hid (false = l.contains t) := Lib.hid (HL.out.no HS.out (fun e => absurd e hil)).symm
        go_wp2_with fail
        go_quiet (fail)
        go_wp2_with fail
        go_ret2
        exact ⟨i, HL.out, ret_tup HF.out, HB.out.trans (below_drewN (Below.refl _ _) _ |>.mono HB.out.size)⟩
end Go.Proofs.Ytolappaekjdcgaa
