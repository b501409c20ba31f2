/- For every draw the law DrawCountSpec of the given program returns true. -/
import Derived.Test.YtbkgkgigcohbpaaO6
import Derived.Test.YtbkgkgigcohbpaaN6
import Derived.Deep.RegionHeld3
namespace Go.Proofs.Ytbkgkgigcohbpaa
open Go.RowKit
set_option maxHeartbeats 4000000 in
set_option maxRecDepth 8000 in
theorem law3 (w : World) (M : Nat → Prop) (v : Value) (d : DrawD) (h : IsDraw w M v d) :
    Calls Try.prog 3 #[v] w fun e w' => e = .returned (.bool true) ∧ Below w.heap.size w w' := by
  have HD := Lib.hid h
  obtain ⟨v1, v2, v3, rfl, -, -, -⟩ := h
  go_enter Try.func3, Try.ntmps3
  go_wp2_with fail
  refine nameW fun W1 hW1 => ?_
  have hB1 : Below w.heap.size w W1 := by rw [hW1.out]; exact (Below.refl w.heap.size w).alloc (Nat.le_refl _) _
  have hb1 : W1.heap[w.heap.size]? = some (.cells #[v1, v2, v3] 25 (0, 0)) := by rw [hW1.out, heap_alloc_if, if_pos rfl]
  refine (sane_any W1).mono ?_
  rintro e W2 ⟨rfl, hB2⟩
  have hb2 := (hB2.block w.heap.size (lt_heap hb1)).trans hb1
  have HB2 := Lib.hid (hB1.trans (hB2.mono hB1.size))
  have HX2 := Lib.hid hb2
  have c0 := cell_of (j := 0) hb2 rfl
  have c1 := cell_of (j := 1) hb2 rfl
  have c2 := cell_of (j := 2) hb2 rfl
  clear hB1 hb1 hB2 hb2 hW1
  have CL := Lib.hid (few_any W2 M _ d (HD.out.below HB2.out))
  cases hF : fewD d
  · rw [hF] at CL
    go_wp2_with fail
    refine CL.out.mono ?_
    rintro e W3 ⟨rfl, hB3⟩
    go_wp2_with fail
    go_ret
    exact ⟨rfl, HB2.out.trans (hB3.mono HB2.out.size)⟩
  · rw [hF] at CL
    have h6 := few_n hF
    go_wp2_with fail
    refine CL.out.mono ?_
    rintro e w3 ⟨rfl, hB3⟩
    have hb3 := (hB3.block w.heap.size (lt_heap HX2.out)).trans HX2.out
    have HB3 := Lib.hid (HB2.out.trans (hB3.mono HB2.out.size))
    have HX3 := Lib.hid hb3
    clear c0 c1 c2
    have c0 : w3.cell? ⟨w.heap.size, 0, none⟩ = some v1 := cell_of (j := 0) hb3 rfl
    have c1 : w3.cell? ⟨w.heap.size, 1, none⟩ = some v2 := cell_of (j := 1) hb3 rfl
    have c2 : w3.cell? ⟨w.heap.size, 2, none⟩ = some v3 := cell_of (j := 2) hb3 rfl
    clear hb3
    have CC := Lib.hid (count_any w3 M _ d (HD.out.below HB3.out))
    obtain ⟨r1, hr1⟩ : ∃ r1, r1 = (countD d).1 := ⟨_, rfl⟩
    obtain ⟨r2, hr2⟩ : ∃ r2, r2 = (countD d).2 := ⟨_, rfl⟩
    obtain ⟨r3, hr3⟩ : ∃ r3, r3 = (chancesD d).1 := ⟨_, rfl⟩
    obtain ⟨r4, hr4⟩ : ∃ r4, r4 = (chancesD d).2 := ⟨_, rfl⟩
    obtain ⟨r5, hr5⟩ : ∃ r5, r5 = checkD d := ⟨_, rfl⟩
    have HR := Lib.hid (And.intro hr1 (And.intro hr2 (And.intro hr3 (And.intro hr4 hr5))))
    clear hr1 hr2 hr3 hr4 hr5 hB3 CL
    go_wp2_with fail
    refine CC.out.mono ?_
    rintro e w4 ⟨rfl, hB4⟩
    rw [← HR.out.1, ← HR.out.2.1]
    have hb4 := (hB4.block w.heap.size (lt_heap HX3.out)).trans HX3.out
    have HB4 := Lib.hid (HB3.out.trans (hB4.mono HB3.out.size))
    have HX4 := Lib.hid hb4
    clear c0 c1 c2
    have c0 : w4.cell? ⟨w.heap.size, 0, none⟩ = some v1 := cell_of (j := 0) hb4 rfl
    have c1 : w4.cell? ⟨w.heap.size, 1, none⟩ = some v2 := cell_of (j := 1) hb4 rfl
    have c2 : w4.cell? ⟨w.heap.size, 2, none⟩ = some v3 := cell_of (j := 2) hb4 rfl
    clear hb4
    have CR := Lib.hid (refCount_any w4 M _ d (HD.out.below HB4.out) h6)
    clear hB4 CC
    go_wp2_with fail
    refine CR.out.mono ?_
    rintro e w5 ⟨rfl, hB5⟩
    rw [← HR.out.1, ← HR.out.2.1]
    have hb5 := (hB5.block w.heap.size (lt_heap HX4.out)).trans HX4.out
    have HB5 := Lib.hid (HB4.out.trans (hB5.mono HB4.out.size))
    have HX5 := Lib.hid hb5
    clear c0 c1 c2
    have c0 : w5.cell? ⟨w.heap.size, 0, none⟩ = some v1 := cell_of (j := 0) hb5 rfl
    have c1 : w5.cell? ⟨w.heap.size, 1, none⟩ = some v2 := cell_of (j := 1) hb5 rfl
    have c2 : w5.cell? ⟨w.heap.size, 2, none⟩ = some v3 := cell_of (j := 2) hb5 rfl
    clear hb5
    have CH := Lib.hid (chances_any w5 M _ d (HD.out.below HB5.out))
    clear hB5 CR
    go_wp2_with fail
    refine CH.out.mono ?_
    rintro e w6 ⟨v6, rfl, h6', hB6⟩
    rw [← HR.out.2.2.1] at h6'
    rw [← HR.out.2.2.2.1]
    have hb6 := (hB6.block w.heap.size (lt_heap HX5.out)).trans HX5.out
    have HB6 := Lib.hid (HB5.out.trans (hB6.mono HB5.out.size))
    have HX6 := Lib.hid hb6
    clear c0 c1 c2
    have c0 : w6.cell? ⟨w.heap.size, 0, none⟩ = some v1 := cell_of (j := 0) hb6 rfl
    have c1 : w6.cell? ⟨w.heap.size, 1, none⟩ = some v2 := cell_of (j := 1) hb6 rfl
    have c2 : w6.cell? ⟨w.heap.size, 2, none⟩ = some v3 := cell_of (j := 2) hb6 rfl
    clear hb6
    have H6 := Lib.hid h6'
    have CG := Lib.hid (refChances_any w6 M _ d (HD.out.below HB6.out) h6)
    clear hB6 CH h6'
    go_wp2_with fail
    refine CG.out.mono ?_
    rintro e w7 ⟨v7, rfl, h7', hB7⟩
    rw [← HR.out.2.2.1] at h7'
    rw [← HR.out.2.2.2.1]
    have hb7 := (hB7.block w.heap.size (lt_heap HX6.out)).trans HX6.out
    have HB7 := Lib.hid (HB6.out.trans (hB7.mono HB6.out.size))
    have HX7 := Lib.hid hb7
    clear c0 c1 c2
    have c0 : w7.cell? ⟨w.heap.size, 0, none⟩ = some v1 := cell_of (j := 0) hb7 rfl
    have c1 : w7.cell? ⟨w.heap.size, 1, none⟩ = some v2 := cell_of (j := 1) hb7 rfl
    have c2 : w7.cell? ⟨w.heap.size, 2, none⟩ = some v3 := cell_of (j := 2) hb7 rfl
    clear hb7
    have H7 := Lib.hid h7'
    replace H6 := Lib.hid (IsTab.below H6.out hB7)
    have HDW := Lib.hid (HD.out.below HB7.out)
    have hlw : w.heap.size < w7.heap.size := lt_heap HX7.out
    clear hB7 CG h7'
    go_wp2_with fail
    go_region_held3 (fun w' => w'.cell? ⟨w.heap.size, 0, none⟩ = some v1 ∧ w'.cell? ⟨w.heap.size, 1, none⟩ = some v2 ∧ w'.cell? ⟨w.heap.size, 2, none⟩ = some v3) (first | with_reducible exact ⟨c0, c1, c2⟩ | with_reducible exact ⟨a0, a1, a2⟩ | with_reducible exact ⟨b0, b1, b2⟩ | with_reducible exact ⟨e0, e1, e2⟩ | go_keep) (first | (go_at_call 15; refine (check_any _ M _ d (HDW.out.below ((Below.refl _ _).drew))).mono ?_; rintro e wA ⟨rfl, hA⟩; have HA : Hid (Below w7.heap.size w7 wA) := ((Below.refl w7.heap.size w7).drew).trans hA; clear hA; have a0 := (HA.out.cell (p := ⟨w.heap.size, 0, none⟩) hlw).trans c0; have a1 := (HA.out.cell (p := ⟨w.heap.size, 1, none⟩) hlw).trans c1; have a2 := (HA.out.cell (p := ⟨w.heap.size, 2, none⟩) hlw).trans c2; rw [← HR.out.2.2.2.2]) | (go_at_call 16; refine (refCheck_any wA M _ d (HDW.out.below HA.out)).mono ?_; rintro e wB ⟨rfl, hB⟩; have HBB : Hid (Below w7.heap.size w7 wB) := HA.out.trans (hB.mono HA.out.size); clear hB; have b0 := (HBB.out.cell (p := ⟨w.heap.size, 0, none⟩) hlw).trans c0; have b1 := (HBB.out.cell (p := ⟨w.heap.size, 1, none⟩) hlw).trans c1; have b2 := (HBB.out.cell (p := ⟨w.heap.size, 2, none⟩) hlw).trans c2; rw [← HR.out.2.2.2.2]) | (go_at_call 17; refine (sameCh_any wB _ _ _ _ _ _ (IsTab.below H6.out HBB.out) (IsTab.below H7.out HBB.out)).mono ?_; rintro e wC ⟨rfl, hC⟩; have HCC : Hid (Below w7.heap.size w7 wC) := HBB.out.trans (hC.below.mono HBB.out.size); clear hC; have e0 := (HCC.out.cell (p := ⟨w.heap.size, 0, none⟩) hlw).trans c0; have e1 := (HCC.out.cell (p := ⟨w.heap.size, 1, none⟩) hlw).trans c1; have e2 := (HCC.out.cell (p := ⟨w.heap.size, 2, none⟩) hlw).trans c2; rw [decide_eq_true rfl]))
    go_wp2_with fail
    go_ret
    exact ⟨rfl, HB7.out.trans (HCC.out.mono HB7.out.size)⟩
end Go.Proofs.Ytbkgkgigcohbpaa
