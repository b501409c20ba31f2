/- sane: the examples of the chapter, run. -/
import Derived.Test.YtikddknhcfhnbaaF7
import Derived.Test.YtikddknhcfhnbaaF5
import Derived.Test.YtikddknhcfhnbaaV3
namespace Go.Proofs.Ytikddknhcfhnbaa
open Go.RowKit Go.Deep
def All : Nat → Prop := fun _ => True
theorem arcs_at {w : World} {b : Nat} {l : List ArcD} {cs : Array Value} {t : TypeId} {z : Nat × Nat} (h : w.heap[b]? = some (.cells cs t z)) (hc : ∀ i j, i < l.length → j < 3 → cs[i * 3 + j]? = some (arcc (nthA l i) j)) (hl : l.length ≤ 1000) : IsArcs w All (.slice (some ⟨b, 0, none⟩) l.length l.length) l :=
  ⟨some ⟨b, 0, none⟩, l.length, rfl, Nat.le_refl _, by omega, fun _ => ⟨b, 0, rfl, trivial, fun i j hi hj => by rw [Nat.zero_add]; exact cell_of h (hc i j hi hj)⟩⟩
theorem ints_at {w : World} {b : Nat} {l : List Int} {cs : Array Value} {t : TypeId} {z : Nat × Nat} (h : w.heap[b]? = some (.cells cs t z)) (hc : ∀ i, i < l.length → cs[i]? = some (.int .i64 (l.getD i 0))) (hl : l.length ≤ 1000) : IsInts w All (.slice (some ⟨b, 0, none⟩) l.length l.length) l :=
  ⟨some ⟨b, 0, none⟩, l.length, rfl, Nat.le_refl _, by omega, fun _ => ⟨b, 0, rfl, trivial, fun i j hi hj => by
    obtain rfl : j = 0 := by omega
    rw [Nat.zero_add, Nat.mul_one, Nat.add_zero]; exact cell_of h (hc i hi)⟩⟩
theorem ints_sl {w : World} {M : Nat → Prop} {v : Value} {l : List Int} {n : Nat} (h : IsInts w M v l) (hn : l.length = n) : ∃ A c, v = .slice A n c := by
  obtain ⟨A, c, e, -⟩ := h
  exact ⟨A, c, by rw [e, hn]⟩
/-- two numbers in a block -/
theorem two_at {w : World} {b : Nat} {x y : Int} (h : w.heap[b]? = some (.cells #[.int .i64 x, .int .i64 y] 3 (0, 0))) : IsInts w All (.slice (some ⟨b, 0, none⟩) 2 2) [x, y] :=
  ints_at (l := [x, y]) h (fun i hi => by
    have hi : i < 2 := hi
    match i, hi with
    | 0, _ => rfl
    | 1, _ => rfl) (by simp)
theorem one_at {w : World} {b : Nat} {x : Int} (h : w.heap[b]? = some (.cells #[.int .i64 x] 3 (0, 0))) : IsInts w All (.slice (some ⟨b, 0, none⟩) 1 1) [x] :=
  ints_at (l := [x]) h (fun i hi => by
    have hi : i < 1 := hi
    match i, hi with
    | 0, _ => rfl) (by simp)
theorem arcs2_at {w : World} {b : Nat} {a1 b1 c1 a2 b2 c2 : Int} (h : w.heap[b]? = some (.cells #[.int .i64 a1, .int .i64 b1, .int .i64 c1, .int .i64 a2, .int .i64 b2, .int .i64 c2] 45 (0, 0))) : IsArcs w All (.slice (some ⟨b, 0, none⟩) 2 2) [⟨a1, b1, c1⟩, ⟨a2, b2, c2⟩] :=
  arcs_at (l := [⟨a1, b1, c1⟩, ⟨a2, b2, c2⟩]) h (fun i j hi hj => by
    have hi : i < 2 := hi
    match i, j, hi, hj with
    | 0, 0, _, _ => rfl
    | 0, 1, _, _ => rfl
    | 0, 2, _, _ => rfl
    | 1, 0, _, _ => rfl
    | 1, 1, _, _ => rfl
    | 1, 2, _, _ => rfl) (by simp)
theorem arcs1_at {w : World} {b : Nat} {a1 b1 c1 : Int} (h : w.heap[b]? = some (.cells #[.int .i64 a1, .int .i64 b1, .int .i64 c1] 45 (0, 0))) : IsArcs w All (.slice (some ⟨b, 0, none⟩) 1 1) [⟨a1, b1, c1⟩] :=
  arcs_at (l := [⟨a1, b1, c1⟩]) h (fun i j hi hj => by
    have hi : i < 1 := hi
    match i, j, hi, hj with
    | 0, 0, _, _ => rfl
    | 0, 1, _, _ => rfl
    | 0, 2, _, _ => rfl) (by simp)
set_option maxHeartbeats 4000000 in
set_option maxRecDepth 100000 in
theorem sane_any (w : World) : Calls Try.prog 10 #[] w (BoolW true w) := by
  go_enter Try.func10, Try.ntmps10
  go_wp2_with fail
  refine nameW fun W1 hW1 => ?_
  have hB1 : Below w.heap.size w W1 := by rw [hW1.out]; exact (Below.refl _ _).alloc (Nat.le_refl _) _
  have k1 := arcs2_at (w := W1) (b := w.heap.size) (a1 := 0) (b1 := 1) (c1 := 3) (a2 := 1) (b2 := 2) (c2 := 2) (by rw [hW1.out, heap_alloc_if, if_pos rfl])
  clear hW1
  refine (network_any W1 3 _ _ _).mono ?_
  rintro e w2 ⟨rfl, hb2⟩
  have HB2 := Lib.hid (hB1.trans (hb2.mono hB1.size))
  have HA2 := Lib.hid (IsSl.below k1 hb2)
  clear hB1 k1 hb2
  go_wp2_with fail
  refine nameW fun W3 hW3 => ?_
  have hB3 : Below w2.heap.size w2 W3 := by rw [hW3.out]; exact (Below.refl _ _).alloc (Nat.le_refl _) _
  have HB3 := Lib.hid (HB2.out.trans (hB3.mono HB2.out.size))
  have hg3 : IsNet W3 All (.agg #[.int .i64 3, .slice (some ⟨w.heap.size, 0, none⟩) 2 2]) nA := ⟨_, rfl, IsSl.below HA2.out hB3⟩
  have HG3 := Lib.hid hg3
  obtain ⟨b1, hb1⟩ : ∃ b, b = w2.heap.size := ⟨_, rfl⟩
  have hk3 : W3.heap[b1]? = some (.cells #[.int .i64 3, .slice (some ⟨w.heap.size, 0, none⟩) 2 2] 24 (0, 0)) := by rw [hW3.out, hb1, heap_alloc_if, if_pos rfl]
  have HK3 := Lib.hid hk3
  rw [← hb1]
  clear hW3 hB3 hg3 hk3 HB2 HA2 hb1
  refine (max_yes W3 All _ nA HG3.out chkA).mono ?_
  rintro e w4 ⟨V, fl, val, sd, v1, v2, hn, rfl, hbest, hi1, hi2, hb4⟩
  obtain ⟨rfl, rfl, rfl⟩ := bestA hn hbest
  have HVA : Hid (valB nA [2, 2] = true) := Lib.hid hbest.flow
  obtain ⟨A1, d1, rfl⟩ := ints_sl hi1 (n := 2) rfl
  obtain ⟨A2, d2, rfl⟩ := ints_sl hi2 (n := 2) rfl
  have HI1 := Lib.hid hi1
  have HI2 := Lib.hid hi2
  have HB4 := Lib.hid (HB3.out.trans (hb4.mono HB3.out.size))
  have HG4 := Lib.hid (HG3.out.below hb4)
  have HK4 := Lib.hid ((hb4.block _ (lt_heap HK3.out)).trans HK3.out)
  have HNA := Lib.hid hn
  clear hi1 hi2 hb4 hbest hn HB3 HG3 HK3
  go_wp2_with fail
  refine nameW fun W5 hW5 => ?_
  have hB5 : Below w4.heap.size w4 W5 := by rw [hW5.out]; exact (Below.refl _ _).alloc (Nat.le_refl _) _
  obtain ⟨b5, hb5⟩ : ∃ b, b = w4.heap.size := ⟨_, rfl⟩
  have k5 := arcs2_at (w := W5) (b := b5) (a1 := 0) (b1 := 1) (c1 := 3) (a2 := 0) (b2 := 1) (c2 := 4) (by rw [hW5.out, hb5, heap_alloc_if, if_pos rfl])
  rw [← hb5]
  clear hW5 hb5
  refine (network_any W5 2 _ _ _).mono ?_
  rintro e w6 ⟨rfl, hb6⟩
  have hB6 := hB5.trans (hb6.mono hB5.size)
  have HB6 := Lib.hid (HB4.out.trans (hB6.mono HB4.out.size))
  have HA6 := Lib.hid (IsSl.below k5 hb6)
  have HG6 := Lib.hid (HG4.out.below hB6)
  have HK6 := Lib.hid ((hB6.block _ (lt_heap HK4.out)).trans HK4.out)
  have HI1 := Lib.hid (IsSl.below HI1.out hB6)
  have HI2 := Lib.hid (IsSl.below HI2.out hB6)
  clear hB5 k5 hb6 hB6 HB4 HG4 HK4
  go_wp2_with fail
  refine nameW fun W7 hW7 => ?_
  have hB7 : Below w6.heap.size w6 W7 := by rw [hW7.out]; exact (Below.refl _ _).alloc (Nat.le_refl _) _
  have hg7 : IsNet W7 All (.agg #[.int .i64 2, .slice (some ⟨b5, 0, none⟩) 2 2]) nB := ⟨_, rfl, IsSl.below HA6.out hB7⟩
  have HG7 := Lib.hid hg7
  clear hW7 hg7 HA6
  refine (max_yes W7 All _ nB HG7.out chkB).mono ?_
  rintro e w8 ⟨V, fl, val, sd, v1, v2, hn, rfl, hbest, hi1, hi2, hb8⟩
  obtain ⟨rfl, rfl, rfl⟩ := bestB hn hbest
  obtain ⟨A3, d3, rfl⟩ := ints_sl hi1 (n := 2) rfl
  obtain ⟨A4, d4, rfl⟩ := ints_sl hi2 (n := 1) rfl
  have hB8 := hB7.trans (hb8.mono hB7.size)
  have HI3 := Lib.hid hi1
  have HI4 := Lib.hid hi2
  have HB8 := Lib.hid (HB6.out.trans (hB8.mono HB6.out.size))
  have HG8 := Lib.hid (HG6.out.below hB8)
  have HK8 := Lib.hid ((hB8.block _ (lt_heap HK6.out)).trans HK6.out)
  have HI1 := Lib.hid (IsSl.below HI1.out hB8)
  have HI2 := Lib.hid (IsSl.below HI2.out hB8)
  have c0 : w8.cell? ⟨b1, 0, none⟩ = some (.int .i64 3) := cell_of HK8.out rfl
  have c1 : w8.cell? ⟨b1, 1, none⟩ = some (.slice (some ⟨w.heap.size, 0, none⟩) 2 2) := cell_of HK8.out rfl
  have hlt8 := lt_heap HK8.out
  clear hB7 hi1 hi2 hb8 hB8 hbest hn HB6 HG6 HK6 HG7
  go_wp2_with fail
  refine nameW fun W9 hW9 => ?_
  have hB9 : Below w8.heap.size w8 W9 := by rw [hW9.out]; exact (Below.refl _ _).alloc (Nat.le_refl _) _
  have k9 := two_at (w := W9) (b := w8.heap.size) (x := 0) (y := 1) (by rw [hW9.out, heap_alloc_if, if_pos rfl])
  have CC := Lib.hid (cap_any W9 All All _ _ nA [0, 1] (HG8.out.below hB9) k9 (by simp))
  rw [capA] at CC
  clear hW9 k9
  refine CC.out.mono ?_
  rintro e w10 ⟨rfl, hb10⟩
  have hB10 := hB9.trans (hb10.mono hB9.size)
  have HB10 := Lib.hid (HB8.out.trans (hB10.mono HB8.out.size))
  have HG10 := Lib.hid (HG8.out.below hB10)
  have HK10 := Lib.hid ((hB10.block _ hlt8).trans HK8.out)
  have HI1 := Lib.hid (IsSl.below HI1.out hB10)
  have HI2 := Lib.hid (IsSl.below HI2.out hB10)
  have HI3 := Lib.hid (IsSl.below HI3.out hB10)
  have HI4 := Lib.hid (IsSl.below HI4.out hB10)
  have c0 : w10.cell? ⟨b1, 0, none⟩ = some (.int .i64 3) := cell_of HK10.out rfl
  have c1 : w10.cell? ⟨b1, 1, none⟩ = some (.slice (some ⟨w.heap.size, 0, none⟩) 2 2) := cell_of HK10.out rfl
  have hlt10 := lt_heap HK10.out
  have CP := Lib.hid (paths_any w10 All _ _ _ nA [2, 2] HG10.out HI1.out)
  clear hB9 hb10 hB10 HB8 HG8 HK8 hlt8 CC
  go_wp2_with fail
  refine CP.out.mono ?_
  rintro e w11 ⟨hb11, hor⟩
  rcases hor with ⟨h1, -⟩ | ⟨V, ps, am, L, W, v1, v2, base, hn, -, rfl, hpp, hwz, hpl, -, hrw, ham⟩
  · rw [HVA.out] at h1; cases h1
  obtain ⟨A5, d5, rfl⟩ := hrw.sl
  obtain ⟨A6, d6, rfl⟩ := own_sl ham
  have hB := hb11
  have HR11 := Lib.hid hrw
  have HM11 := Lib.hid ham
  have HPP := Lib.hid hpp
  have HWZ := Lib.hid hwz
  have HPL := Lib.hid hpl
  have HNV := Lib.hid hn
  have HB11 := Lib.hid (HB10.out.trans (hB.mono HB10.out.size))
  have HG11 := Lib.hid (HG10.out.below hB)
  have HK11 := Lib.hid ((hB.block _ hlt10).trans HK10.out)
  have hlt11 := lt_heap HK11.out
  have HI1 := Lib.hid (IsSl.below HI1.out hB)
  have HI2 := Lib.hid (IsSl.below HI2.out hB)
  have HI3 := Lib.hid (IsSl.below HI3.out hB)
  have HI4 := Lib.hid (IsSl.below HI4.out hB)
  clear hb11 hB hrw ham hpp hwz hpl hn CP HB10 HG10 HK10 hlt10 c0 c1
  go_wp2_with fail
  refine nameW fun W12 hW12 => ?_
  have hB12 : Below w11.heap.size w11 W12 := by rw [hW12.out]; exact (Below.refl _ _).alloc (Nat.le_refl _) _
  have k12 := two_at (w := W12) (b := w11.heap.size) (x := 2) (y := 2) (by rw [hW12.out, heap_alloc_if, if_pos rfl])
  have CS := Lib.hid (same_any W12 _ _ _ _ [2, 2] [2, 2] (IsSl.below HI1.out hB12) k12)
  rw [show decide (([2, 2] : List Int) = [2, 2]) = true by decide] at CS
  clear hW12 k12
  refine CS.out.mono ?_
  rintro e w13 ⟨rfl, hD⟩
  have hB := hB12.trans (hD.below.mono hB12.size)
  clear hB12 hD CS
  have HB13 := Lib.hid (HB11.out.trans (hB.mono HB11.out.size))
  have HG13 := Lib.hid (HG11.out.below hB)
  have HK13 := Lib.hid ((hB.block _ hlt11).trans HK11.out)
  have hlt13 := lt_heap HK13.out
  have HR13 := Lib.hid (HR11.out.below hB)
  have HM13 := Lib.hid (own_below HM11.out hB)
  have HI2 := Lib.hid (IsSl.below HI2.out hB)
  have HI3 := Lib.hid (IsSl.below HI3.out hB)
  have HI4 := Lib.hid (IsSl.below HI4.out hB)
  clear hB HB11 HG11 HK11 HR11 HM11 hlt11
  go_wp2_with fail
  refine nameW fun W14 hW14 => ?_
  have hB14 : Below w13.heap.size w13 W14 := by rw [hW14.out]; exact (Below.refl _ _).alloc (Nat.le_refl _) _
  have k14 := two_at (w := W14) (b := w13.heap.size) (x := 0) (y := 1) (by rw [hW14.out, heap_alloc_if, if_pos rfl])
  have CS := Lib.hid (same_any W14 _ _ _ _ [0, 1] [0, 1] (IsSl.below HI2.out hB14) k14)
  rw [show decide (([0, 1] : List Int) = [0, 1]) = true by decide] at CS
  clear hW14 k14
  refine CS.out.mono ?_
  rintro e w15 ⟨rfl, hD⟩
  have hB := hB14.trans (hD.below.mono hB14.size)
  clear hB14 hD CS
  have HB15 := Lib.hid (HB13.out.trans (hB.mono HB13.out.size))
  have HG15 := Lib.hid (HG13.out.below hB)
  have HK15 := Lib.hid ((hB.block _ hlt13).trans HK13.out)
  have hlt15 := lt_heap HK15.out
  have HR15 := Lib.hid (HR13.out.below hB)
  have HM15 := Lib.hid (own_below HM13.out hB)
  have HI3 := Lib.hid (IsSl.below HI3.out hB)
  have HI4 := Lib.hid (IsSl.below HI4.out hB)
  clear hB HB13 HG13 HK13 HR13 HM13 hlt13
  go_wp2_with fail
  refine nameW fun W16 hW16 => ?_
  have hB16 : Below w15.heap.size w15 W16 := by rw [hW16.out]; exact (Below.refl _ _).alloc (Nat.le_refl _) _
  have k16 := two_at (w := W16) (b := w15.heap.size) (x := 3) (y := 4) (by rw [hW16.out, heap_alloc_if, if_pos rfl])
  have CS := Lib.hid (same_any W16 _ _ _ _ [3, 4] [3, 4] (IsSl.below HI3.out hB16) k16)
  rw [show decide (([3, 4] : List Int) = [3, 4]) = true by decide] at CS
  clear hW16 k16
  refine CS.out.mono ?_
  rintro e w17 ⟨rfl, hD⟩
  have hB := hB16.trans (hD.below.mono hB16.size)
  clear hB16 hD CS
  have HB17 := Lib.hid (HB15.out.trans (hB.mono HB15.out.size))
  have HG17 := Lib.hid (HG15.out.below hB)
  have HK17 := Lib.hid ((hB.block _ hlt15).trans HK15.out)
  have hlt17 := lt_heap HK17.out
  have HR17 := Lib.hid (HR15.out.below hB)
  have HM17 := Lib.hid (own_below HM15.out hB)
  have HI4 := Lib.hid (IsSl.below HI4.out hB)
  clear hB HB15 HG15 HK15 HR15 HM15 hlt15
  go_wp2_with fail
  refine nameW fun W18 hW18 => ?_
  have hB18 : Below w17.heap.size w17 W18 := by rw [hW18.out]; exact (Below.refl _ _).alloc (Nat.le_refl _) _
  have k18 := one_at (w := W18) (b := w17.heap.size) (x := 0) (by rw [hW18.out, heap_alloc_if, if_pos rfl])
  have CS := Lib.hid (same_any W18 _ _ _ _ [0] [0] (IsSl.below HI4.out hB18) k18)
  rw [show decide (([0] : List Int) = [0]) = true by decide] at CS
  clear hW18 k18
  refine CS.out.mono ?_
  rintro e w19 ⟨rfl, hD⟩
  have hB := hB18.trans (hD.below.mono hB18.size)
  clear hB18 hD CS
  have HB19 := Lib.hid (HB17.out.trans (hB.mono HB17.out.size))
  have HG19 := Lib.hid (HG17.out.below hB)
  have HK19 := Lib.hid ((hB.block _ hlt17).trans HK17.out)
  have hlt19 := lt_heap HK19.out
  have HR19 := Lib.hid (HR17.out.below hB)
  have HM19 := Lib.hid (own_below HM17.out hB)
  clear hB HB17 HG17 HK17 HR17 HM17 hlt17
  have c0 : w19.cell? ⟨b1, 0, none⟩ = some (.int .i64 3) := cell_of HK19.out rfl
  have c1 : w19.cell? ⟨b1, 1, none⟩ = some (.slice (some ⟨w.heap.size, 0, none⟩) 2 2) := cell_of HK19.out rfl
  go_wp2_with fail
  refine nameW fun W20 hW20 => ?_
  have hB20 : Below w19.heap.size w19 W20 := by rw [hW20.out]; exact (Below.refl _ _).alloc (Nat.le_refl _) _
  have k20 := two_at (w := W20) (b := w19.heap.size) (x := 2) (y := 2) (by rw [hW20.out, heap_alloc_if, if_pos rfl])
  have CR := Lib.hid (rpaths_any W20 _ _ _ _ _ _ _ _ nA V [2, 2] ps am L W (HG19.out.below hB20) k20 (HR19.out.below hB20) (IsInts.ofOwn (own_below HM19.out hB20)) HNV.out HVA.out HPP.out HWZ.out HPL.out)
  clear hW20 k20
  refine CR.out.mono ?_
  rintro e w21 ⟨rfl, hb21⟩
  have HB21 := Lib.hid (HB19.out.trans ((hB20.trans (hb21.mono hB20.size)).mono HB19.out.size))
  clear hB20 hb21 CR HB19 HG19 HK19 HR19 HM19 hlt19 c0 c1
  go_wp2_with fail
  refine nameW fun W22 hW22 => ?_
  have hB22 : Below w21.heap.size w21 W22 := by rw [hW22.out]; exact (Below.refl _ _).alloc (Nat.le_refl _) _
  have k22 := arcs1_at (w := W22) (b := w21.heap.size) (a1 := 1) (b1 := 0) (c1 := 0) (by rw [hW22.out, heap_alloc_if, if_pos rfl])
  clear hW22
  refine (network_any W22 2 _ _ _).mono ?_
  rintro e w23 ⟨rfl, hb23⟩
  have HB23 := Lib.hid (HB21.out.trans ((hB22.trans (hb23.mono hB22.size)).mono HB21.out.size))
  have CK := Lib.hid (fcheck_any w23 _ _ nC ⟨_, rfl, IsSl.below k22 hb23⟩)
  rw [chkF_no chkC] at CK
  clear hB22 hb23 k22 HB21
  go_wp2_with fail
  refine CK.out.mono ?_
  rintro e w24 ⟨rfl, hb24⟩
  go_wp2_with fail
  go_ret
  exact ⟨rfl, HB23.out.trans (hb24.mono HB23.out.size)⟩
end Go.Proofs.Ytikddknhcfhnbaa
