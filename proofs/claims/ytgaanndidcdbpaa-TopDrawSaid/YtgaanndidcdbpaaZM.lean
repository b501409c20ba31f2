import Derived.Test.YtgaanndidcdbpaaT20
import Derived.BigQuiet
import Derived.Test.YtgaanndidcdbpaaZL
import Derived.Test.YtgaanndidcdbpaaZK
import Derived.Test.YtgaanndidcdbpaaZA
/- sane: the examples, plain. -/
namespace Go.Proofs.Ytgaanndidcdbpaa
open Go.RowKit Go.Shelf
def cl0 : List Int := [3, 5]
def ps0 : List (List Nat) := [[7], [9]]
def be0 : BeaD := (newD cl0 1 10).1
def be2 : BeaD := stB cl0 1 10 ps0 2
def be3 : BeaD := (playD be2 cl0 ps0 0 0).1
def be4 : BeaD := (playD be3 cl0 ps0 1 0).1
theorem sane1 : (newD cl0 1 10).2 = 0 := by decide +kernel
theorem sane2 : (revealD be0 ⟨3, 7⟩).2 = 240 := by decide +kernel
theorem sane3 : missD be0 = ([3, 5], 0) := by decide +kernel
theorem sane4 : (numD be0).2 = 242 := by decide +kernel
theorem sane5 : startB cl0 1 10 ps0 = true := by decide +kernel
theorem sane6 : (playD be2 cl0 ps0 0 0).2 = true := by decide +kernel
theorem sane7 : (playD be3 cl0 ps0 1 0).2 = true := by decide +kernel
theorem sane8 : numD be4 = (6, 0) := by decide +kernel
theorem sane9 : (newD cl0 2 10).2 = 240 := by decide +kernel
theorem sane10 : chkD be4 = 0 := by decide +kernel
theorem sane11 : be4.opns.length = 1 := by decide +kernel
def w64T (x : Int) : Bool := decide (-9223372036854775808 ≤ x) && decide (x ≤ 9223372036854775807)
def u64T (x : Nat) : Bool := decide (x < 18446744073709551616)
/-- SmallB, to be decided -/
def smallT (b : BeaD) : Bool := decide (b.clubs.length ≤ 1000) && (decide (b.coms.length ≤ 1000) && (decide (b.revs.length ≤ 1000) && (decide (b.opns.length ≤ 1000) && (b.clubs.all w64T && (b.coms.all (fun c => w64T c.club && (c.checks.all u64T && decide (c.checks.length ≤ 140737488355328))) && (b.revs.all (fun r => w64T r.club && u64T r.num) && (b.opns.all (fun o => w64T o.club && (w64T o.frm && (u64T o.sh.1 && u64T o.sh.2))) && (u64T b.rng && w64T b.thr))))))))
theorem all_getD {α : Type} {l : List α} {p : α → Bool} (h : l.all p = true) (d : α) (i : Nat) (hi : i < l.length) : p (l.getD i d) = true := by
  rw [List.getD_eq_getElem?_getD, List.getElem?_eq_getElem hi, Option.getD_some]
  exact List.all_eq_true.1 h _ (List.getElem_mem hi)
theorem w64T_W {x : Int} (h : w64T x = true) : W64 x := by
  unfold w64T at h
  simp only [Bool.and_eq_true, decide_eq_true_eq] at h
  exact h
theorem u64T_U {x : Nat} (h : u64T x = true) : x < 18446744073709551616 := by simpa [u64T] using h
theorem small_of {b : BeaD} (h : smallT b = true) : SmallB b := by
  unfold smallT at h
  simp only [Bool.and_eq_true, decide_eq_true_eq] at h
  obtain ⟨h1, h2, h3, h4, h5, h6, h7, h8, h9, h10⟩ := h
  refine ⟨h1, h2, h3, h4, fun i hi => w64T_W (all_getD h5 0 i hi), fun i hi => ?_, fun i hi => ?_, fun i hi => ?_, fun i hi => ?_, by simpa [u64T] using h9, w64T_W h10⟩
  · have := all_getD h6 com0 i hi
    simp only [Bool.and_eq_true, decide_eq_true_eq] at this
    exact w64T_W this.1
  · have := all_getD h6 com0 i hi
    simp only [Bool.and_eq_true, decide_eq_true_eq] at this
    exact ⟨fun x hx => by simpa [u64T] using List.all_eq_true.1 this.2.1 x hx, this.2.2⟩
  · have := all_getD h7 rev0 i hi
    simp only [Bool.and_eq_true] at this
    exact ⟨w64T_W this.1, u64T_U this.2⟩
  · have := all_getD h8 opn0 i hi
    simp only [Bool.and_eq_true] at this
    exact ⟨w64T_W this.1, w64T_W this.2.1, u64T_U this.2.2.1, u64T_U this.2.2.2⟩
theorem small0 : SmallB be0 := small_of (by decide +kernel)
theorem small2 : SmallB be2 := small_of (by decide +kernel)
theorem small3 : SmallB be3 := small_of (by decide +kernel)
theorem small4 : SmallB be4 := small_of (by decide +kernel)
end Go.Proofs.Ytgaanndidcdbpaa
/- sane: the walk. -/
namespace Go.Proofs.Ytgaanndidcdbpaa
open Go.RowKit Go.Shelf

set_option maxRecDepth 100000 in
set_option maxHeartbeats 8000000 in
theorem sane_any (w : World) : Calls Try.prog 9 #[] w (RetT true w) := by
  have hw0 : ∀ i, i < cl0.length → W64 (nthI cl0 i) := fun i hi => w64T_W (all_getD (by decide) 0 i hi)
  have hu0 : ∀ i, i < ps0.length → U64s (polN ps0 i) := fun i hi => by
    have hi2 : i < 2 := hi
    rcases (by omega : i = 0 ∨ i = 1) with rfl | rfl
    · intro x hx
      have : x = 7 := by simpa [polN, ps0] using hx
      omega
    · intro x hx
      have : x = 9 := by simpa [polN, ps0] using hx
      omega
  have hn0 : ∀ i, i < ps0.length → 1 ≤ (polN ps0 i).length := fun i hi => by
    have hi2 : i < 2 := hi
    rcases (by omega : i = 0 ∨ i = 1) with rfl | rfl <;> decide
  go_enter Try.func9, Try.ntmps9
  go_upto_region 2 with fail
  refine nameC fun W1 hW1 => ?_
  have j0 : W1.heap[w.heap.size]? = some (.cells #[.int .i64 3, .int .i64 5] 3 (0, 0)) := (by rw [hW1.out]; simp only [heap_alloc_if, World.size_alloc]; repeat (first | rw [if_pos trivial] | rw [if_pos (by omega)] | rw [if_neg (by omega)]))
  have j1 : W1.heap[w.heap.size + 1]? = some (.cells #[.int .u64 7] 23 (0, 0)) := (by rw [hW1.out]; simp only [heap_alloc_if, World.size_alloc]; repeat (first | rw [if_pos trivial] | rw [if_pos (by omega)] | rw [if_neg (by omega)]))
  have j2 : W1.heap[w.heap.size + 1 + 1]? = some (.cells #[.int .u64 9] 23 (0, 0)) := (by rw [hW1.out]; simp only [heap_alloc_if, World.size_alloc]; repeat (first | rw [if_pos trivial] | rw [if_pos (by omega)] | rw [if_neg (by omega)]))
  have j3 : W1.heap[w.heap.size + 1 + 1 + 1]? = some (.cells #[.slice (some ⟨w.heap.size + 1, 0, none⟩) 1 1, .slice (some ⟨w.heap.size + 1 + 1, 0, none⟩) 1 1] 35 (0, 0)) := (by rw [hW1.out]; simp only [heap_alloc_if, World.size_alloc]; repeat (first | rw [if_pos trivial] | rw [if_pos (by omega)] | rw [if_neg (by omega)]))
  have HB1 : Hid (Below w.heap.size w W1) := Lib.hid (by rw [hW1.out]; exact ((((Below.refl _ _).alloc (Nat.le_refl _) _).alloc (by simp) _).alloc (by simp; omega) _).alloc (by simp; omega) _)
  have HI : Hid (IsInts W1 TT (.slice (some ⟨w.heap.size, 0, none⟩) 2 2) cl0) := Lib.hid ⟨_, _, rfl, Nat.le_refl _, by decide, fun _ => ⟨_, _, rfl, trivial, fun i j hi hj => by
    have hj0 : j = 0 := by omega
    have hi2 : i < 2 := hi
    subst hj0
    rcases (by omega : i = 0 ∨ i = 1) with rfl | rfl
    · exact cell_of (j := 0) j0 rfl
    · exact cell_of (j := 1) j0 rfl⟩⟩
  have HP : Hid (IsPol W1 TT (.slice (some ⟨w.heap.size + 1 + 1 + 1, 0, none⟩) 2 2) ps0) := Lib.hid ⟨fun i => if i = 0 then .slice (some ⟨w.heap.size + 1, 0, none⟩) 1 1 else .slice (some ⟨w.heap.size + 1 + 1, 0, none⟩) 1 1, ⟨_, _, rfl, Nat.le_refl _, by decide, fun _ => ⟨_, _, rfl, trivial, fun i j hi hj => by
      have hj0 : j = 0 := by omega
      have hi2 : i < 2 := hi
      subst hj0
      rcases (by omega : i = 0 ∨ i = 1) with rfl | rfl
      · exact cell_of (j := 0) j3 rfl
      · exact cell_of (j := 1) j3 rfl⟩⟩, fun i hi => by
      have hi2 : i < 2 := hi
      rcases (by omega : i = 0 ∨ i = 1) with rfl | rfl
      · refine ⟨_, _, rfl, Nat.le_refl _, by decide, fun _ => ⟨_, _, rfl, trivial, fun i j hi hj => ?_⟩⟩
        have hj0 : j = 0 := by omega
        have hi1 : i < 1 := hi
        obtain rfl : i = 0 := by omega
        subst hj0
        exact cell_of (j := 0) j1 rfl
      · refine ⟨_, _, rfl, Nat.le_refl _, by decide, fun _ => ⟨_, _, rfl, trivial, fun i j hi hj => ?_⟩⟩
        have hj0 : j = 0 := by omega
        have hi1 : i < 1 := hi
        obtain rfl : i = 0 := by omega
        subst hj0
        exact cell_of (j := 0) j2 rfl⟩
  clear j0 j1 j2 j3 hW1
  go_wp2_with fail
  refine (new_any W1 _ _ cl0 1 10 HI.out).mono ?_
  rintro e w2 ⟨bv, rfl, hbv, hb2⟩
  obtain ⟨a0, a1, a2, a3, a4, a5, a6, a7, a8, a9, a10, a11, a12, a13, rfl⟩ := hbv.shape
  rw [sane1]
  have HBV2 : Hid (IsBea w2 (fun q => W1.heap.size ≤ q) (.agg #[.slice a0 a1 a2, .int .i64 a3, .int .u64 a4, .slice a5 a6 a7, .slice a8 a9 a10, .slice a11 a12 a13]) be0) := Lib.hid hbv
  have HB2 := Lib.hid hb2
  clear hbv hb2
  go_upto_region 3 with fail
  refine nameC fun W3 hW3 => ?_
  have k3 : W3.heap[w2.heap.size]? = some (.cells #[.slice a0 a1 a2, .int .i64 a3, .int .u64 a4, .slice a5 a6 a7, .slice a8 a9 a10, .slice a11 a12 a13] 32 (0, 0)) := by rw [hW3.out]; exact heap_alloc_new _ _
  have hb3 : Below w2.heap.size w2 W3 := by rw [hW3.out]; exact (Below.refl _ _).alloc (Nat.le_refl _) _
  have HB3 : Hid (Below W1.heap.size W1 W3) := Lib.hid (HB2.out.trans (hb3.mono HB2.out.size))
  have HBE3 : Hid (IsBea W3 TT (.agg #[.slice a0 a1 a2, .int .i64 a3, .int .u64 a4, .slice a5 a6 a7, .slice a8 a9 a10, .slice a11 a12 a13]) be0) := Lib.hid (IsBea.mono (HBV2.out.below hb3) (fun _ _ _ => trivial))
  have K3 := Lib.hid k3
  obtain ⟨g3, hg3⟩ : ∃ g, g = w2.heap.size := ⟨_, rfl⟩
  rw [← hg3] at K3 ⊢
  clear k3 hb3 hW3 HBV2 HB2 hg3
  obtain ⟨⟨c0, c1, c2, c3, c4, c5⟩, ⟨f0, f1, f2, f3, f4, f5⟩⟩ := blk6 K3.out
  go_wp2_with fail
  refine (reveal_any W3 _ _ be0 ⟨3, 7⟩ HBE3.out small0 ⟨by decide, by decide⟩ (by decide)).mono ?_
  rintro e w4 ⟨bv, rfl, hbv, hb4⟩
  obtain ⟨b0, b1, b2, b3, b4, b5, b6, b7, b8, b9, b10, b11, b12, b13, rfl⟩ := hbv.shape
  rw [sane2]
  have HB4 := Lib.hid (HB3.out.trans (hb4.mono HB3.out.size))
  have K4 := Lib.hid ((hb4.block _ (lt_heap K3.out)).trans K3.out)
  have HBE4 := Lib.hid (HBE3.out.below hb4)
  clear hbv hb4 c0 f0 c1 f1 c2 f2 c3 f3 c4 f4 c5 f5 K3 HB3 HBE3
  go_upto_region 4 with fail
  refine nameC fun W5 hW5 => ?_
  have hb5 : Below w4.heap.size w4 W5 := by rw [hW5.out]; exact (Below.refl _ _).alloc (Nat.le_refl _) _
  have HB5 := Lib.hid (HB4.out.trans (hb5.mono HB4.out.size))
  have K5 := Lib.hid ((hb5.block _ (lt_heap K4.out)).trans K4.out)
  have HBE5 := Lib.hid (HBE4.out.below hb5)
  clear hW5 hb5 K4 HB4 HBE4
  obtain ⟨⟨c0, c1, c2, c3, c4, c5⟩, ⟨f0, f1, f2, f3, f4, f5⟩⟩ := blk6 K5.out
  go_wp2_with fail
  refine (missing_any W5 _ _ be0 HBE5.out small0).mono ?_
  rintro e w6' ⟨lv, rfl, hlv, hb6⟩
  rw [sane3] at hlv ⊢
  obtain ⟨lA, lc, rfl, -⟩ := id hlv
  have HLV : Hid (IsInts w6' TT (.slice lA 2 lc) [3, 5]) := Lib.hid (IsSl.mono hlv (fun _ _ _ => trivial) (by omega))
  have HB6 := Lib.hid (HB5.out.trans (hb6.mono HB5.out.size))
  have k6 := (hb6.block _ (lt_heap K5.out)).trans K5.out
  have HBE6 := Lib.hid (HBE5.out.below hb6)
  clear hlv hb6 c0 f0 c1 f1 c2 f2 c3 f3 c4 f4 c5 f5 K5 HB5 HBE5
  obtain ⟨⟨c0, c1, c2, c3, c4, c5⟩, ⟨f0, f1, f2, f3, f4, f5⟩⟩ := blk6 k6
  clear k6
  dsimp only
  go_wp2_with fail
  refine (number2_any w6' _ _ be0 HBE6.out small0).mono ?_
  rintro e w7 ⟨rfl, hb7⟩
  rw [sane4]
  have HB7 := Lib.hid (HB6.out.trans (hb7.mono HB6.out.size))
  have HLV7 : Hid (IsInts w7 TT (.slice lA 2 lc) [3, 5]) := Lib.hid (IsSl.below HLV.out hb7)
  clear hb7 c0 f0 c1 f1 c2 f2 c3 f3 c4 f4 c5 f5 HLV HB6 HBE6
  go_wp2_with fail
  refine (start_any w7 _ _ _ _ cl0 1 10 ps0 (IsSl.below HI.out HB7.out) (HP.out.below HB7.out) (fun i hi => w64T_W (all_getD (by decide) 0 i hi)) hu0).mono ?_
  rintro e w8 ⟨bv, rfl, -, hbv, hb8⟩
  have hbv := hbv sane5
  rw [sane5]
  change IsBea w8 (fun q => w7.heap.size < q) bv be2 at hbv
  obtain ⟨d0, d1, d2, d3, d4, d5, d6, d7, d8, d9, d10, d11, d12, d13, rfl⟩ := hbv.shape
  have HBV8 := Lib.hid hbv
  have HB8 := Lib.hid (HB7.out.trans (hb8.mono HB7.out.size))
  have HLV8 : Hid (IsInts w8 TT (.slice lA 2 lc) [3, 5]) := Lib.hid (IsSl.below HLV7.out hb8)
  clear hbv hb8
  go_upto_region 7 with fail
  refine nameC fun W9 hW9 => ?_
  have hb9 : Below w8.heap.size w8 W9 := by rw [hW9.out]; exact (Below.refl _ _).alloc (Nat.le_refl _) _
  have k9 : W9.heap[w8.heap.size]? = some (.cells #[.slice d0 d1 d2, .int .i64 d3, .int .u64 d4, .slice d5 d6 d7, .slice d8 d9 d10, .slice d11 d12 d13] 32 (0, 0)) := by rw [hW9.out]; exact heap_alloc_new _ _
  obtain ⟨g11, hg11⟩ : ∃ g, g = w8.heap.size := ⟨_, rfl⟩
  have HB9 := Lib.hid (HB8.out.trans (hb9.mono HB8.out.size))
  have HBE9 : Hid (IsBea W9 (fun q => q ≠ g11) (.agg #[.slice d0 d1 d2, .int .i64 d3, .int .u64 d4, .slice d5 d6 d7, .slice d8 d9 d10, .slice d11 d12 d13]) be2) := Lib.hid (IsBea.below (IsBea.mono HBV8.out (fun q hq _ => by show q ≠ g11; omega)) hb9)
  have HLV9 : Hid (IsInts W9 (fun q => q ≠ g11) (.slice lA 2 lc) [3, 5]) := Lib.hid (IsSl.below (IsSl.mono HLV8.out (fun q hq _ => by show q ≠ g11; omega) (by omega)) hb9)
  have HGL : Hid (W1.heap.size ≤ g11) := Lib.hid (by rw [hg11]; exact HB8.out.size)
  rw [← hg11] at k9 ⊢
  have K9 := Lib.hid k9
  clear hW9 hb9 k9 hg11 HB8 HBV8 HLV8
  obtain ⟨⟨c0, c1, c2, c3, c4, c5⟩, ⟨f0, f1, f2, f3, f4, f5⟩⟩ := blk6 K9.out
  go_wp2_with fail
  refine (play_any W9 (fun q => q ≠ g11) _ _ _ _ _ be2 cl0 ps0 0 0 HBE9.out small2 (IsSl.below HI.out HB9.out) (HP.out.below HB9.out) hw0 hu0 ⟨by decide, by decide⟩ rfl hn0 (by decide) (by decide)).mono ?_
  rintro e w10 ⟨bv, rfl, hbv, hb⟩
  rw [sane6]
  change IsBea w10 (fun q => q ≠ g11 ∨ W9.heap.size ≤ q) bv be3 at hbv
  have hg := lt_heap K9.out
  have hbv := IsBea.mono (M' := fun q => q ≠ g11) hbv (fun q _ hq => by
    rcases hq with hq | hq
    · exact hq
    · show q ≠ g11
      have : W9.heap.size ≤ q := hq
      omega)
  obtain ⟨e0, e1, e2, e3, e4, e5, e6, e7, e8, e9, e10, e11, e12, e13, rfl⟩ := hbv.shape
  have hk := (hb.block _ hg).trans K9.out
  have HBW : Hid (Below W1.heap.size W1 w10) := Lib.hid (HB9.out.trans (hb.mono HB9.out.size))
  have HLVw : Hid (IsInts w10 (fun q => q ≠ g11) (.slice lA 2 lc) [3, 5]) := Lib.hid (IsSl.below HLV9.out hb)
  have HBV :=  Lib.hid hbv
  have HKK := Lib.hid hk
  clear hbv hb c0 f0 c1 f1 c2 f2 c3 f3 c4 f4 c5 f5
  obtain ⟨⟨c0, c1, c2, c3, c4, c5⟩, ⟨f0, f1, f2, f3, f4, f5⟩⟩ := blk6 hk
  clear hk
  go_upto_region 10 with fail
  refine nameC fun W11 hW => ?_
  have hw : W11 = w6 w10 g11 (.slice e0 e1 e2) (.int .i64 e3) (.int .u64 e4) (.slice e5 e6 e7) (.slice e8 e9 e10) (.slice e11 e12 e13) := hW.out
  have hgl : W1.heap.size ≤ g11 := HGL.out
  have K11 : Hid (W11.heap[g11]? = some (.cells #[.slice e0 e1 e2, .int .i64 e3, .int .u64 e4, .slice e5 e6 e7, .slice e8 e9 e10, .slice e11 e12 e13] 32 (0, 0))) := Lib.hid (by rw [hw]; exact w6_at HKK.out _ _ _ _ _ _)
  have HB11 : Hid (Below W1.heap.size W1 W11) := Lib.hid (by rw [hw]; exact w6_below HBW.out hgl _ _ _ _ _ _)
  have HBE11 : Hid (IsBea W11 (fun q => q ≠ g11) (.agg #[.slice e0 e1 e2, .int .i64 e3, .int .u64 e4, .slice e5 e6 e7, .slice e8 e9 e10, .slice e11 e12 e13]) be3) := Lib.hid (by rw [hw]; exact HBV.out.keep fun p hp _ => World.cell?_of_block (w := w10) (w6_other hp _ _ _ _ _ _))
  have HLV11 : Hid (IsInts W11 (fun q => q ≠ g11) (.slice lA 2 lc) [3, 5]) := Lib.hid (by rw [hw]; exact IsSl.keep HLVw.out fun p hp _ => World.cell?_of_block (w := w10) (w6_other hp _ _ _ _ _ _))
  clear hW hw hgl hg HBV HKK HBW c0 f0 c1 f1 c2 f2 c3 f3 c4 f4 c5 f5
  obtain ⟨⟨c0, c1, c2, c3, c4, c5⟩, ⟨f0, f1, f2, f3, f4, f5⟩⟩ := blk6 K11.out
  go_wp2_with fail
  refine (play_any W11 (fun q => q ≠ g11) _ _ _ _ _ be3 cl0 ps0 1 0 HBE11.out small3 (IsSl.below HI.out HB11.out) (HP.out.below HB11.out) hw0 hu0 ⟨by decide, by decide⟩ rfl hn0 (by decide) (by decide)).mono ?_
  rintro e w12 ⟨bv, rfl, hbv, hb⟩
  rw [sane7]
  change IsBea w12 (fun q => q ≠ g11 ∨ W11.heap.size ≤ q) bv be4 at hbv
  have hg := lt_heap K11.out
  have hbv := IsBea.mono (M' := fun q => q ≠ g11) hbv (fun q _ hq => by
    rcases hq with hq | hq
    · exact hq
    · show q ≠ g11
      have : W11.heap.size ≤ q := hq
      omega)
  obtain ⟨h0, h1, h2, h3, h4, h5, h6, h7, h8, h9, h10, h11, h12, h13, rfl⟩ := hbv.shape
  have hk := (hb.block _ hg).trans K11.out
  have HBW : Hid (Below W1.heap.size W1 w12) := Lib.hid (HB11.out.trans (hb.mono HB11.out.size))
  have HLVw : Hid (IsInts w12 (fun q => q ≠ g11) (.slice lA 2 lc) [3, 5]) := Lib.hid (IsSl.below HLV11.out hb)
  have HBV :=  Lib.hid hbv
  have HKK := Lib.hid hk
  clear hbv hb c0 f0 c1 f1 c2 f2 c3 f3 c4 f4 c5 f5
  obtain ⟨⟨c0, c1, c2, c3, c4, c5⟩, ⟨f0, f1, f2, f3, f4, f5⟩⟩ := blk6 hk
  clear hk
  go_upto_region 11 with fail
  refine nameC fun W13 hW => ?_
  have hw : W13 = w6 w12 g11 (.slice h0 h1 h2) (.int .i64 h3) (.int .u64 h4) (.slice h5 h6 h7) (.slice h8 h9 h10) (.slice h11 h12 h13) := hW.out
  have hgl : W1.heap.size ≤ g11 := HGL.out
  have K13 : Hid (W13.heap[g11]? = some (.cells #[.slice h0 h1 h2, .int .i64 h3, .int .u64 h4, .slice h5 h6 h7, .slice h8 h9 h10, .slice h11 h12 h13] 32 (0, 0))) := Lib.hid (by rw [hw]; exact w6_at HKK.out _ _ _ _ _ _)
  have HB13 : Hid (Below W1.heap.size W1 W13) := Lib.hid (by rw [hw]; exact w6_below HBW.out hgl _ _ _ _ _ _)
  have HBE13 : Hid (IsBea W13 (fun q => q ≠ g11) (.agg #[.slice h0 h1 h2, .int .i64 h3, .int .u64 h4, .slice h5 h6 h7, .slice h8 h9 h10, .slice h11 h12 h13]) be4) := Lib.hid (by rw [hw]; exact HBV.out.keep fun p hp _ => World.cell?_of_block (w := w12) (w6_other hp _ _ _ _ _ _))
  have HLV13 : Hid (IsInts W13 (fun q => q ≠ g11) (.slice lA 2 lc) [3, 5]) := Lib.hid (by rw [hw]; exact IsSl.keep HLVw.out fun p hp _ => World.cell?_of_block (w := w12) (w6_other hp _ _ _ _ _ _))
  clear hW hw hgl hg HBV HKK HBW c0 f0 c1 f1 c2 f2 c3 f3 c4 f4 c5 f5
  obtain ⟨⟨c0, c1, c2, c3, c4, c5⟩, ⟨f0, f1, f2, f3, f4, f5⟩⟩ := blk6 K13.out
  go_wp2_with fail
  refine (number2_any W13 _ _ be4 HBE13.out small4).mono ?_
  rintro e w14 ⟨rfl, hb14⟩
  rw [sane8]
  dsimp only
  have HB14 := Lib.hid (HB13.out.trans (hb14.mono HB13.out.size))
  have K14 := Lib.hid ((hb14.block _ (lt_heap K13.out)).trans K13.out)
  have HBE14 := Lib.hid (HBE13.out.below hb14)
  have HLV14 : Hid (IsInts w14 (fun q => q ≠ g11) (.slice lA 2 lc) [3, 5]) := Lib.hid (IsSl.below HLV13.out hb14)
  clear hb14 c0 f0 c1 f1 c2 f2 c3 f3 c4 f4 c5 f5
  go_wp2_with fail
  refine (new_any w14 _ _ cl0 2 10 (IsSl.below HI.out HB14.out)).mono ?_
  rintro e w15 ⟨bv, rfl, hbv, hb15⟩
  obtain ⟨m0, m1, m2, m3, m4, m5, m6, m7, m8, m9, m10, m11, m12, m13, rfl⟩ := hbv.shape
  rw [sane9]
  have HB15 := Lib.hid (HB14.out.trans (hb15.mono HB14.out.size))
  have K15 := Lib.hid ((hb15.block _ (lt_heap K14.out)).trans K14.out)
  have HBE15 := Lib.hid (HBE14.out.below hb15)
  have HLV15 : Hid (IsInts w15 (fun q => q ≠ g11) (.slice lA 2 lc) [3, 5]) := Lib.hid (IsSl.below HLV14.out hb15)
  clear hbv hb15
  go_upto_region 13 with fail
  refine nameC fun W16 hW16 => ?_
  have hb16 : Below w15.heap.size w15 W16 := by rw [hW16.out]; exact (Below.refl _ _).alloc (Nat.le_refl _) _
  have HB16 := Lib.hid (HB15.out.trans (hb16.mono HB15.out.size))
  have K16 := Lib.hid ((hb16.block _ (lt_heap K15.out)).trans K15.out)
  have HBE16 := Lib.hid (HBE15.out.below hb16)
  have HLV16 : Hid (IsInts W16 (fun q => q ≠ g11) (.slice lA 2 lc) [3, 5]) := Lib.hid (IsSl.below HLV15.out hb16)
  clear hW16 hb16
  go_wp2_with fail
  refine (sameInts_any W16 _ _ _ _ [3, 5] cl0 HLV16.out (IsSl.below HI.out HB16.out) (by decide)).mono ?_
  rintro e w17 ⟨rfl, hb17⟩
  rw [show decide ([3, 5] = cl0) = true by decide]
  have HB17 := Lib.hid (HB16.out.trans (hb17.mono HB16.out.size))
  have k17 := (hb17.block _ (lt_heap K16.out)).trans K16.out
  have HK17 := Lib.hid k17
  have HBE17 := Lib.hid (HBE16.out.below hb17)
  clear hb17
  obtain ⟨⟨c0, c1, c2, c3, c4, c5⟩, ⟨f0, f1, f2, f3, f4, f5⟩⟩ := blk6 k17
  clear k17
  go_wp2_with fail
  refine (bcheck_any w17 _ _ be4 HBE17.out small4).mono ?_
  rintro e w18 ⟨rfl, hb18⟩
  rw [sane10]
  have hlen : h12 = 1 := by
    obtain ⟨x0, x1, x2, x3, x4, x5, x6, x7, e, -⟩ := HBE17.out.parts
    have h11 := sane11
    simp at e
    omega
  subst hlen
  have k18 := (hb18.block _ (lt_heap HK17.out)).trans HK17.out
  have HBW := Lib.hid (HB1.out.trans ((HB17.out.trans (hb18.mono HB17.out.size)).mono HB1.out.size))
  clear hb18 c0 f0 c1 f1 c2 f2 c3 f3 c4 f4 c5 f5
  have c5 := cell_of (j := 5) k18 rfl
  clear k18
  go_wp2_with fail
  go_ret
  exact ⟨rfl, HBW.out⟩
end Go.Proofs.Ytgaanndidcdbpaa
/- Plain: what Few bounds; the beacon after Commit, Reveal, Open. -/
namespace Go.Proofs.Ytgaanndidcdbpaa
open Go.RowKit Go.Shelf

theorem FewD_len {b : BeaD} (h : FewD b = true) : b.clubs.length ≤ 6 ∧ b.coms.length ≤ 7 ∧ b.revs.length ≤ 7 ∧ b.opns.length ≤ 20 := by
  unfold FewD at h
  simp only [Bool.and_eq_true, decide_eq_true_eq] at h
  obtain ⟨h1, h2, -, h4, h5⟩ := h
  omega
theorem missD_chk (b : BeaD) : (missD b).2 = chkD b := by
  unfold missD
  split
  · rename_i h; rw [h]
  · rfl
theorem revealD_yes {b : BeaD} {r : RevD} (h : (revealD b r).2 = 0) : (revealD b r).1 = {b with revs := b.revs ++ [r]} ∧ chkD b = 0 ∧ doneB b = true ∧ revB b r = true ∧ (List.range b.revs.length).any (fun i => decide ((revN b.revs i).club = r.club)) = false := by
  unfold revealD at h ⊢
  by_cases h1 : chkD b = 0
  · rw [if_pos h1] at h ⊢
    by_cases h2 : (!doneB b || (List.range b.revs.length).any (fun i => decide ((revN b.revs i).club = r.club))) = true
    · rw [if_pos h2] at h; cases h
    · rw [if_neg h2] at h ⊢
      by_cases h3 : revB b r = true
      · rw [if_pos h3]
        simp only [Bool.or_eq_true, not_or, Bool.not_eq_true, Bool.not_eq_false'] at h2
        exact ⟨rfl, h1, by simpa using h2.1, h3, h2.2⟩
      · rw [if_neg h3] at h; cases h
  · rw [if_neg h1] at h; exact absurd h h1
theorem openD_yes {b : BeaD} {o : OpnD} (h : (openD b o).2 = 0) : (openD b o).1 = {b with opns := b.opns ++ [o]} ∧ chkD b = 0 ∧ doneB b = true ∧ opnB b o = true ∧ (List.range b.opns.length).any (fun i => decide ((opnN b.opns i).club = o.club) && decide ((opnN b.opns i).frm = o.frm)) = false := by
  unfold openD at h ⊢
  by_cases h1 : chkD b = 0
  · rw [if_pos h1] at h ⊢
    by_cases h2 : (!doneB b || (List.range b.opns.length).any (fun i => decide ((opnN b.opns i).club = o.club) && decide ((opnN b.opns i).frm = o.frm))) = true
    · rw [if_pos h2] at h; cases h
    · rw [if_neg h2] at h ⊢
      by_cases h3 : opnB b o = true
      · rw [if_pos h3]
        simp only [Bool.or_eq_true, not_or, Bool.not_eq_true, Bool.not_eq_false'] at h2
        exact ⟨rfl, h1, by simpa using h2.1, h3, h2.2⟩
      · rw [if_neg h3] at h; cases h
  · rw [if_neg h1] at h; exact absurd h h1
theorem commitD_facts {b : BeaD} {c : ComD} (h : (commitD b c).2 = 0) : chkD b = 0 ∧ (comAt b c.club).isSome = false ∧ comB b c = true := by
  unfold commitD at h
  by_cases h1 : chkD b = 0
  · rw [if_pos h1] at h
    by_cases h2 : ((comAt b c.club).isSome || !comB b c) = true
    · rw [if_pos h2] at h; cases h
    · simp only [Bool.or_eq_true, not_or, Bool.not_eq_true, Bool.not_eq_false'] at h2
      exact ⟨h1, h2.1, by simpa using h2.2⟩
  · rw [if_neg h1] at h; exact absurd h h1
/-- a beacon with one element more is small -/
theorem small_com {b : BeaD} {c : ComD} (h : SmallB b) (hl : b.coms.length ≤ 900) (hc : W64 c.club) (hk : U64s c.checks ∧ c.checks.length ≤ 140737488355328) : SmallB {b with coms := b.coms ++ [c]} := by
  have e : ∀ i, i < b.coms.length + 1 → comN (b.coms ++ [c]) i = if i < b.coms.length then comN b.coms i else c := comN_snoc b.coms c
  refine ⟨h.cl, by show (b.coms ++ [c]).length ≤ 1000; rw [List.length_append]; simp; omega, h.re, h.op, h.clW, fun i hi => ?_, fun i hi => ?_, h.reW, h.opW, h.rg, h.th⟩
  all_goals (
    have hi' : i < b.coms.length + 1 := by have : i < (b.coms ++ [c]).length := hi; rwa [List.length_append] at this
    dsimp only
    rw [e i hi']
    by_cases hlt : i < b.coms.length
    · rw [if_pos hlt]; first | exact h.coW i hlt | exact h.chW i hlt
    · rw [if_neg hlt]; first | exact hc | exact hk)
theorem small_rev {b : BeaD} {r : RevD} (h : SmallB b) (hl : b.revs.length ≤ 900) (hc : W64 r.club ∧ r.num < 18446744073709551616) : SmallB {b with revs := b.revs ++ [r]} := by
  refine ⟨h.cl, h.co, by show (b.revs ++ [r]).length ≤ 1000; rw [List.length_append]; simp; omega, h.op, h.clW, h.coW, h.chW, fun i hi => ?_, h.opW, h.rg, h.th⟩
  have hi' : i < b.revs.length + 1 := by have : i < (b.revs ++ [r]).length := hi; rwa [List.length_append] at this
  dsimp only
  rw [revN_snoc b.revs r i hi']
  by_cases hlt : i < b.revs.length
  · rw [if_pos hlt]; exact h.reW i hlt
  · rw [if_neg hlt]; exact hc
theorem small_opn {b : BeaD} {o : OpnD} (h : SmallB b) (hl : b.opns.length ≤ 900) (hc : W64 o.club ∧ W64 o.frm ∧ o.sh.1 < 18446744073709551616 ∧ o.sh.2 < 18446744073709551616) : SmallB {b with opns := b.opns ++ [o]} := by
  refine ⟨h.cl, h.co, h.re, by show (b.opns ++ [o]).length ≤ 1000; rw [List.length_append]; simp; omega, h.clW, h.coW, h.chW, h.reW, fun i hi => ?_, h.rg, h.th⟩
  have hi' : i < b.opns.length + 1 := by have : i < (b.opns ++ [o]).length := hi; rwa [List.length_append] at this
  dsimp only
  rw [opnN_snoc b.opns o i hi']
  by_cases hlt : i < b.opns.length
  · rw [if_pos hlt]; exact h.opW i hlt
  · rw [if_neg hlt]; exact hc
end Go.Proofs.Ytgaanndidcdbpaa
/- Plain: Check of a beacon after Reveal. -/
namespace Go.Proofs.Ytgaanndidcdbpaa
open Go.RowKit Go.Shelf

theorem cntTo_congr {X : Type} [DecidableEq X] {f g : Nat → X} : ∀ {n : Nat}, (∀ i, i < n → f i = g i) → cntTo f n = cntTo g n
  | 0, _ => rfl
  | n + 1, h => by
    have e : (List.range n).any (fun i => decide (f n = f i)) = (List.range n).any (fun i => decide (g n = g i)) := by
      rw [Bool.eq_iff_iff, List.any_eq_true, List.any_eq_true]
      constructor
      · rintro ⟨i, hi, h2⟩; exact ⟨i, hi, by rw [← h i (by have := List.mem_range.1 hi; omega), ← h n (by omega)]; exact h2⟩
      · rintro ⟨i, hi, h2⟩; exact ⟨i, hi, by rw [h i (by have := List.mem_range.1 hi; omega), h n (by omega)]; exact h2⟩
    show (if _ then _ else _) = (if _ then _ else _)
    rw [e, cntTo_congr (fun i hi => h i (by omega))]
/-- one key more, a new one -/
theorem distB_snoc {X : Type} [DecidableEq X] {f g : Nat → X} {n : Nat} (h : distB f n = true) (hg : ∀ i, i < n → g i = f i) (hn : ∀ i, i < n → g n ≠ f i) : distB g (n + 1) = true := by
  unfold distB at h ⊢
  rw [decide_eq_true_eq] at h ⊢
  have e : (List.range n).any (fun i => decide (g n = g i)) = false := by
    rw [List.any_eq_false]
    intro i hi
    have hi' := List.mem_range.1 hi
    rw [hg i hi']
    simpa using hn i hi'
  show (if _ then _ else _) = n + 1
  rw [e, cntTo_congr hg, h]
  rfl
theorem chk_rev {b : BeaD} {r : RevD} (h : chkD b = 0) (hd : doneB b = true) (hr : revB b r = true) (hn : (List.range b.revs.length).any (fun i => decide ((revN b.revs i).club = r.club)) = false) : chkD {b with revs := b.revs ++ [r]} = 0 := by
  have h8 : chkTo b 8 := by unfold chkD at h; split at h; assumption; cases h
  refine chk_yes fun i hi => ?_
  have hx := h8 i hi
  rcases (by omega : i = 0 ∨ i = 1 ∨ i = 2 ∨ i = 3 ∨ i = 4 ∨ i = 5 ∨ i = 6 ∨ i = 7) with rfl | rfl | rfl | rfl | rfl | rfl | rfl | rfl
  · exact hx
  · exact hx
  · exact hx
  · show (doneB b || _) = true; rw [hd]; rfl
  · show distB (fun i => (revN (b.revs ++ [r]) i).club) (b.revs ++ [r]).length = true
    rw [List.length_append]
    refine distB_snoc hx (fun i hi => ?_) (fun i hi e => ?_)
    · rw [revN_snoc b.revs r i (by omega), if_pos hi]
    · rw [revN_snoc b.revs r b.revs.length (by omega), if_neg (by omega)] at e
      have := List.any_eq_false.1 hn i (List.mem_range.2 hi)
      simp at this
      exact this e.symm
  · exact hx
  · show (!(List.range (b.revs ++ [r]).length).any (fun i => !revB b (revN (b.revs ++ [r]) i))) = true
    have hx' : (!(List.range b.revs.length).any (fun i => !revB b (revN b.revs i))) = true := hx
    rw [Bool.not_eq_true', List.any_eq_false] at hx' ⊢
    intro i hi
    have hi' : i < b.revs.length + 1 := by have := List.mem_range.1 hi; rwa [List.length_append] at this
    rw [revN_snoc b.revs r i hi']
    by_cases hl : i < b.revs.length
    · rw [if_pos hl]; exact hx' i (List.mem_range.2 hl)
    · rw [if_neg hl, hr]; simp
  · exact hx
theorem chk_opn {b : BeaD} {o : OpnD} (h : chkD b = 0) (hd : doneB b = true) (hr : opnB b o = true) (hn : (List.range b.opns.length).any (fun i => decide ((opnN b.opns i).club = o.club) && decide ((opnN b.opns i).frm = o.frm)) = false) : chkD {b with opns := b.opns ++ [o]} = 0 := by
  have h8 : chkTo b 8 := by unfold chkD at h; split at h; assumption; cases h
  refine chk_yes fun i hi => ?_
  have hx := h8 i hi
  rcases (by omega : i = 0 ∨ i = 1 ∨ i = 2 ∨ i = 3 ∨ i = 4 ∨ i = 5 ∨ i = 6 ∨ i = 7) with rfl | rfl | rfl | rfl | rfl | rfl | rfl | rfl
  · exact hx
  · exact hx
  · exact hx
  · show (doneB b || _) = true; rw [hd]; rfl
  · exact hx
  · show distB (fun i => ((opnN (b.opns ++ [o]) i).club, (opnN (b.opns ++ [o]) i).frm)) (b.opns ++ [o]).length = true
    rw [List.length_append]
    refine distB_snoc hx (fun i hi => ?_) (fun i hi e => ?_)
    · rw [opnN_snoc b.opns o i (by omega), if_pos hi]
    · rw [opnN_snoc b.opns o b.opns.length (by omega), if_neg (by omega)] at e
      have := List.any_eq_false.1 hn i (List.mem_range.2 hi)
      injection e with e1 e2
      simp only [Bool.and_eq_true, decide_eq_true_eq, not_and] at this
      exact this e1.symm e2.symm
  · exact hx
  · show (!(List.range (b.opns ++ [o]).length).any (fun i => !opnB b (opnN (b.opns ++ [o]) i))) = true
    have hx' : (!(List.range b.opns.length).any (fun i => !opnB b (opnN b.opns i))) = true := hx
    rw [Bool.not_eq_true', List.any_eq_false] at hx' ⊢
    intro i hi
    have hi' : i < b.opns.length + 1 := by have := List.mem_range.1 hi; rwa [List.length_append] at this
    rw [opnN_snoc b.opns o i hi']
    by_cases hl : i < b.opns.length
    · rw [if_pos hl]; exact hx' i (List.mem_range.2 hl)
    · rw [if_neg hl, hr]; simp
end Go.Proofs.Ytgaanndidcdbpaa
/- Plain: what Check says; Check after Commit. -/
namespace Go.Proofs.Ytgaanndidcdbpaa
open Go.RowKit Go.Shelf

theorem chk8 {b : BeaD} (h : chkD b = 0) : chkTo b 8 := by unfold chkD at h; split at h; assumption; cases h
theorem cntTo_le {X : Type} [DecidableEq X] (f : Nat → X) : ∀ n, cntTo f n ≤ n
  | 0 => Nat.le_refl _
  | n + 1 => by
    have := cntTo_le f n
    have e : cntTo f (n + 1) = if (List.range n).any (fun i => decide (f n = f i)) then cntTo f n else cntTo f n + 1 := rfl
    rw [e]
    split <;> omega
theorem distB_inj {X : Type} [DecidableEq X] {f : Nat → X} : ∀ {n : Nat}, distB f n = true → ∀ i j, i < n → j < n → f i = f j → i = j
  | 0, _, i, j, hi, _, _ => absurd hi (by omega)
  | n + 1, h, i, j, hi, hj, e => by
    unfold distB at h
    rw [decide_eq_true_eq] at h
    have hle := cntTo_le f n
    have h' : (if (List.range n).any (fun i => decide (f n = f i)) then cntTo f n else cntTo f n + 1) = n + 1 := h
    by_cases ha : (List.range n).any (fun i => decide (f n = f i)) = true
    · rw [if_pos ha] at h'; omega
    · rw [if_neg ha] at h'
      rw [Bool.not_eq_true, List.any_eq_false] at ha
      have ih := distB_inj (f := f) (n := n) (by unfold distB; rw [decide_eq_true_eq]; omega)
      rcases Nat.lt_or_ge i n with h1 | h1
      · rcases Nat.lt_or_ge j n with h2 | h2
        · exact ih i j h1 h2 e
        · have hj' : j = n := by omega
          subst hj'
          exact absurd (by rw [e]; simp) (ha i (List.mem_range.2 h1))
      · have hi' : i = n := by omega
        subst hi'
        rcases Nat.lt_or_ge j i with h2 | h2
        · exact absurd (by rw [e]; simp) (ha j (List.mem_range.2 h2))
        · omega
/-- different numbers below k are at most k -/
theorem pigeon : ∀ (k n : Nat) (g : Nat → Nat), (∀ i, i < n → g i < k) → (∀ i j, i < n → j < n → g i = g j → i = j) → n ≤ k
  | 0, n, g, h, _ => by
    rcases Nat.eq_zero_or_pos n with h0 | h0
    · omega
    · exact absurd (h 0 h0) (by omega)
  | k + 1, n, g, h, hi => by
    rcases Nat.eq_zero_or_pos n with h0 | h0
    · omega
    have := pigeon k (n - 1) (fun i => if g i = k then g (n - 1) else g i) (fun i hn => ?_) (fun i j hn hm e => ?_)
    · omega
    · (try dsimp only)
      split
      · rename_i e
        have h1 := h (n - 1) (by omega)
        have h2 : g (n - 1) ≠ k := fun e2 => by have := hi i (n - 1) (by omega) (by omega) (by rw [e, e2]); omega
        omega
      · have := h i (by omega); omega
    · (try dsimp only at e)
      split at e <;> split at e
      · rename_i e1 e2; exact hi i j (by omega) (by omega) (by rw [e1, e2])
      · rename_i e1 e2; have := hi (n - 1) j (by omega) (by omega) e; omega
      · rename_i e1 e2; have := hi i (n - 1) (by omega) (by omega) e; omega
      · exact hi i j (by omega) (by omega) e
theorem placeTo_at2 {cl : List Int} {c : Int} : ∀ {k i : Nat}, placeTo cl k c = some i → i < k ∧ nthI cl i = c
  | 0, i, h => by cases h
  | k + 1, i, h => by
    have h' : (if c = nthI cl k then some k else placeTo cl k c) = some i := h
    split at h'
    · rename_i e; cases h'; exact ⟨by omega, e.symm⟩
    · have := placeTo_at2 h'; exact ⟨by omega, this.2⟩
theorem memB_place {b : BeaD} {c : Int} (h : memB b c = true) : ∃ i, i < b.clubs.length ∧ placeD b c = some i ∧ nthI b.clubs i = c := by
  unfold memB at h
  obtain ⟨i, hi⟩ := Option.isSome_iff_exists.1 h
  have := placeTo_at2 (cl := b.clubs) (c := c) hi
  exact ⟨i, this.1, hi, this.2⟩
theorem comB_mem {b : BeaD} {c : ComD} (h : comB b c = true) : memB b c.club = true ∧ (c.checks.length : Int) = b.thr ∧ c.checks.all elOk = true := by
  unfold comB at h
  simp only [Bool.and_eq_true, decide_eq_true_eq] at h
  exact ⟨h.1, h.2.1, h.2.2⟩
theorem coms_le {b : BeaD} (f : Nat → Int) (n : Nat) (hd : ∀ i j, i < n → j < n → f i = f j → i = j) (hm : ∀ i, i < n → memB b (f i) = true) : n ≤ b.clubs.length := by
  refine pigeon b.clubs.length n (fun i => (placeD b (f i)).getD 0) (fun i hi => ?_) (fun i j hi hj e => ?_)
  · obtain ⟨k, h1, h2, h3⟩ := memB_place (hm i hi)
    show (placeD b (f i)).getD 0 < _
    rw [h2]; exact h1
  · obtain ⟨k, h1, h2, h3⟩ := memB_place (hm i hi)
    obtain ⟨m, h4, h5, h6⟩ := memB_place (hm j hj)
    (try dsimp only at e)
    rw [h2, h5] at e
    have e' : k = m := e
    exact hd i j hi hj (by rw [← h3, ← h6, e'])
/-- what Check says -/
structure ChkB (b : BeaD) : Prop where
  new : NewOk b.clubs b.thr b.rng
  comD : ∀ i j, i < b.coms.length → j < b.coms.length → (comN b.coms i).club = (comN b.coms j).club → i = j
  com : ∀ i, i < b.coms.length → comB b (comN b.coms i) = true
  done : doneB b = true ∨ (b.revs = [] ∧ b.opns = [])
  revD : ∀ i j, i < b.revs.length → j < b.revs.length → (revN b.revs i).club = (revN b.revs j).club → i = j
  opnD : ∀ i j, i < b.opns.length → j < b.opns.length → (opnN b.opns i).club = (opnN b.opns j).club → (opnN b.opns i).frm = (opnN b.opns j).frm → i = j
  rev : ∀ i, i < b.revs.length → revB b (revN b.revs i) = true
  opn : ∀ i, i < b.opns.length → opnB b (opnN b.opns i) = true
theorem all_of_any {n : Nat} {p : Nat → Bool} (h : (!(List.range n).any (fun i => !p i)) = true) (i : Nat) (hi : i < n) : p i = true := by
  rw [Bool.not_eq_true', List.any_eq_false] at h
  simpa using h i (List.mem_range.2 hi)
theorem ChkB.of {b : BeaD} (h : chkD b = 0) : ChkB b := by
  have h8 := chk8 h
  refine ⟨chk_new h, distB_inj (h8 1 (by omega)), all_of_any (h8 2 (by omega)), ?_, distB_inj (h8 4 (by omega)), fun i j hi hj e1 e2 => distB_inj (f := fun i => ((opnN b.opns i).club, (opnN b.opns i).frm)) (h8 5 (by omega)) i j hi hj (Prod.ext e1 e2), all_of_any (h8 6 (by omega)), all_of_any (h8 7 (by omega))⟩
  have h3 : (doneB b || decide (b.revs.length + b.opns.length = 0)) = true := h8 3 (by omega)
  rw [Bool.or_eq_true, decide_eq_true_eq] at h3
  rcases h3 with h3 | h3
  · exact .inl h3
  · exact .inr ⟨List.length_eq_zero_iff.1 (by omega), List.length_eq_zero_iff.1 (by omega)⟩
theorem done_len {b : BeaD} (h : chkD b = 0) : doneB b = true ↔ b.coms.length = b.clubs.length := by
  have h1 : distB (fun i => (comN b.coms i).club) b.coms.length = true := chk8 h 1 (by omega)
  unfold distB at h1
  rw [decide_eq_true_eq] at h1
  unfold doneB
  rw [decide_eq_true_eq, h1]
theorem coms_max {b : BeaD} (h : chkD b = 0) : b.coms.length ≤ b.clubs.length :=
  coms_le (b := b) (fun i => (comN b.coms i).club) b.coms.length (ChkB.of h).comD fun i hi => (comB_mem ((ChkB.of h).com i hi)).1
theorem comTo_none {l : List ComD} {c : Int} : ∀ {k : Nat}, comTo l k c = none → ∀ i, i < k → (comN l i).club ≠ c
  | 0, _, i, hi => absurd hi (by omega)
  | k + 1, h, i, hi => by
    have h' : (if c = (comN l k).club then some (comN l k) else comTo l k c) = none := h
    split at h'
    · cases h'
    · rename_i hne
      rcases Nat.lt_or_ge i k with h1 | h1
      · exact comTo_none h' i h1
      · rw [show i = k by omega]; exact fun e => hne e.symm
theorem comTo_some {l : List ComD} {c : Int} {x : ComD} : ∀ {k : Nat}, comTo l k c = some x → ∃ i, i < k ∧ x = comN l i ∧ (comN l i).club = c
  | 0, h => by cases h
  | k + 1, h => by
    have h' : (if c = (comN l k).club then some (comN l k) else comTo l k c) = some x := h
    split at h'
    · rename_i e; cases h'; exact ⟨k, by omega, rfl, e.symm⟩
    · obtain ⟨i, h1, h2, h3⟩ := comTo_some h'; exact ⟨i, by omega, h2, h3⟩
theorem com_free {b : BeaD} {c : ComD} (h : (comAt b c.club).isSome = false) : ∀ i, i < b.coms.length → (comN b.coms i).club ≠ c.club :=
  comTo_none (by simpa [comAt] using h)
/-- before a commitment that is accepted there are fewer commitments than clubs -/
theorem com_room {b : BeaD} {c : ComD} (h : chkD b = 0) (hn : (comAt b c.club).isSome = false) (hc : comB b c = true) : b.coms.length < b.clubs.length := by
  have hf := com_free hn
  have := coms_le (b := b) (fun i => if i < b.coms.length then (comN b.coms i).club else c.club) (b.coms.length + 1) (fun i j hi hj e => ?_) (fun i hi => ?_)
  · omega
  · (try dsimp only at e)
    split at e <;> split at e
    · rename_i h1 h2; exact (ChkB.of h).comD i j h1 h2 e
    · rename_i h1 h2; exact absurd e (hf i h1)
    · rename_i h1 h2; exact absurd e.symm (hf j h2)
    · omega
  · (try dsimp only)
    split
    · rename_i h1; exact (comB_mem ((ChkB.of h).com i h1)).1
    · exact (comB_mem hc).1
theorem chk_com {b : BeaD} {c : ComD} (h : chkD b = 0) (hn : (comAt b c.club).isSome = false) (hc : comB b c = true) : chkD {b with coms := b.coms ++ [c]} = 0 := by
  have hroom := com_room h hn hc
  have hf := com_free hn
  have h8 := chk8 h
  have hnd : doneB b ≠ true := fun e => by have := (done_len h).1 e; omega
  obtain ⟨hr, ho⟩ := (ChkB.of h).done.resolve_left hnd
  refine chk_yes fun i hi => ?_
  have hx := h8 i hi
  rcases (by omega : i = 0 ∨ i = 1 ∨ i = 2 ∨ i = 3 ∨ i = 4 ∨ i = 5 ∨ i = 6 ∨ i = 7) with rfl | rfl | rfl | rfl | rfl | rfl | rfl | rfl
  · exact hx
  · show distB (fun i => (comN (b.coms ++ [c]) i).club) (b.coms ++ [c]).length = true
    rw [List.length_append]
    refine distB_snoc hx (fun i hi => ?_) (fun i hi e => ?_)
    · rw [comN_snoc b.coms c i (by omega), if_pos hi]
    · rw [comN_snoc b.coms c b.coms.length (by omega), if_neg (by omega)] at e
      exact hf i hi e.symm
  · show (!(List.range (b.coms ++ [c]).length).any (fun i => !comB b (comN (b.coms ++ [c]) i))) = true
    have hx' : (!(List.range b.coms.length).any (fun i => !comB b (comN b.coms i))) = true := hx
    rw [Bool.not_eq_true', List.any_eq_false] at hx' ⊢
    intro i hi
    have hi' : i < b.coms.length + 1 := by have := List.mem_range.1 hi; rwa [List.length_append] at this
    rw [comN_snoc b.coms c i hi']
    by_cases hl : i < b.coms.length
    · rw [if_pos hl]; exact hx' i (List.mem_range.2 hl)
    · rw [if_neg hl, hc]; simp
  · show (_ || decide (b.revs.length + b.opns.length = 0)) = true
    rw [hr, ho]; simp
  · exact hx
  · exact hx
  · show (!(List.range b.revs.length).any _) = true
    rw [hr]; rfl
  · show (!(List.range b.opns.length).any _) = true
    rw [ho]; rfl
end Go.Proofs.Ytgaanndidcdbpaa
/- Plain: which numbers are known; what is missing after Commit, Reveal, Open. -/
namespace Go.Proofs.Ytgaanndidcdbpaa
open Go.RowKit Go.Shelf

theorem idxF_has {p : Nat → Bool} {n : Nat} : 0 ≤ idxF p n ↔ ∃ i, i < n ∧ p i = true := by
  unfold idxF
  cases hf : (List.range n).find? p with
  | none =>
    rw [List.find?_eq_none] at hf
    simp only
    constructor
    · intro h; omega
    · rintro ⟨i, hi, hp⟩; exact absurd hp (hf i (List.mem_range.2 hi))
  | some i =>
    simp only
    exact ⟨fun _ => ⟨i, List.mem_range.1 (List.mem_of_find?_eq_some hf), List.find?_some hf⟩, fun _ => by omega⟩
theorem idxF_p {p : Nat → Bool} {n : Nat} (h : 0 ≤ idxF p n) : p (idxF p n).toNat = true := by
  unfold idxF at h ⊢
  cases hf : (List.range n).find? p with
  | none => rw [hf] at h; simp only at h; omega
  | some i => simp only; exact List.find?_some hf
theorem revI_has {b : BeaD} {c : Int} : 0 ≤ revI b c ↔ ∃ i, i < b.revs.length ∧ (revN b.revs i).club = c := by
  unfold revI
  rw [idxF_has]
  constructor
  · rintro ⟨i, h1, h2⟩; exact ⟨i, h1, by simpa using h2⟩
  · rintro ⟨i, h1, h2⟩; exact ⟨i, h1, by simpa using h2⟩
theorem revI_at {b : BeaD} {c : Int} (h : 0 ≤ revI b c) : (revI b c).toNat < b.revs.length ∧ (revN b.revs (revI b c).toNat).club = c := by
  refine ⟨idxF_hi rfl h, ?_⟩
  have := idxF_p (p := fun i => (revN b.revs i).club == c) h
  exact eq_of_beq this
theorem opnN_get {l : List OpnD} {i : Nat} (hi : i < l.length) : opnN l i = l[i] := by
  unfold opnN; rw [List.getD_eq_getElem?_getD, List.getElem?_eq_getElem hi]; rfl
theorem mem_shL {l : List OpnD} {c : Int} {s : Nat × Nat} (h : s ∈ shL l c) : ∃ i, i < l.length ∧ (opnN l i).club = c ∧ (opnN l i).sh = s := by
  unfold shL at h
  obtain ⟨o, ho, rfl⟩ := List.mem_map.1 h
  obtain ⟨ho1, ho2⟩ := List.mem_filter.1 ho
  obtain ⟨i, hi, rfl⟩ := List.getElem_of_mem ho1
  exact ⟨i, hi, by rw [opnN_get hi]; simpa using ho2, by rw [opnN_get hi]⟩
/-- what an opened share says -/
theorem opnB_says {b : BeaD} {o : OpnD} (h : opnB b o = true) : ∃ c f, comAt b o.club = some c ∧ memB b o.club = true ∧ placeD b o.frm = some f ∧ f < b.clubs.length ∧ nthI b.clubs f = o.frm ∧ o.club ≠ o.frm ∧ o.sh.1 = f + 1 ∧ verD c.checks o.sh = true := by
  unfold opnB at h
  cases hc : comAt b o.club with
  | none => rw [hc] at h; cases h
  | some c =>
    rw [hc] at h
    simp only [Bool.and_eq_true, decide_eq_true_eq] at h
    obtain ⟨h1, h2, h3, h4, h5⟩ := h
    obtain ⟨f, hf1, hf2, hf3⟩ := memB_place h2
    refine ⟨c, f, rfl, h1, hf2, hf1, hf3, h3, ?_, h5⟩
    have := Nat.eq_of_beq_eq_true h4
    rw [hf2] at this
    exact this
theorem comAt_ok {b : BeaD} (h : chkD b = 0) {c : Int} {x : ComD} (hx : comAt b c = some x) : comB b x = true ∧ (x.checks.length : Int) = b.thr ∧ x.club = c := by
  obtain ⟨i, h1, rfl, h3⟩ := comTo_some hx
  have := (ChkB.of h).com i h1
  exact ⟨this, (comB_mem this).2.1, h3⟩
/-- the opened shares of a club have different places -/
theorem shL_nice {b : BeaD} (h : chkD b = 0) (c : Int) : Nice (shL b.opns c) := by
  have hC := ChkB.of h
  have hp : (shL b.opns c).Pairwise (fun s u => s.1 ≠ u.1) := by
    unfold shL
    rw [List.pairwise_map, List.pairwise_filter, List.pairwise_iff_getElem]
    intro i j hi hj hij h1 h2 e
    rw [← opnN_get hi, ← opnN_get hj] at e
    rw [← opnN_get hi] at h1
    rw [← opnN_get hj] at h2
    obtain ⟨_, f, _, _, _, _, hf, _, hx, _⟩ := opnB_says (hC.opn i hi)
    obtain ⟨_, g, _, _, _, _, hg, _, hy, _⟩ := opnB_says (hC.opn j hj)
    have hfg : f = g := by omega
    have e1 : (opnN b.opns i).club = (opnN b.opns j).club := by rw [of_decide_eq_true h1, of_decide_eq_true h2]
    have := hC.opnD i j hi hj e1 (by rw [← hf, ← hg, hfg])
    omega
  refine ⟨fun s hs => ?_, fun i j hi hj hij => ?_⟩
  · obtain ⟨i, hi, -, rfl⟩ := mem_shL hs
    obtain ⟨_, f, _, _, _, hf, _, _, hx, _⟩ := opnB_says (hC.opn i hi)
    have := hC.new.n24
    have : (opnN b.opns i).sh.1 ≤ 24 := by omega
    exact Nat.lt_of_le_of_lt this (by decide)
  · have hg : ∀ k (hk : k < (shL b.opns c).length), (shL b.opns c).getD k (0, 0) = (shL b.opns c)[k] := fun k hk => by rw [List.getD_eq_getElem?_getD, List.getElem?_eq_getElem hk]; rfl
    rw [hg i hi, hg j hj]
    rw [List.pairwise_iff_getElem] at hp
    rcases Nat.lt_or_ge i j with h1 | h1
    · exact hp i j hi hj h1
    · exact fun e => hp j i hj hi (by omega) e.symm
theorem shL_join {b : BeaD} (h : chkD b = 0) {c : Int} (hn : ¬ ((shL b.opns c).length : Int) < b.thr) : joinD (shL b.opns c) b.thr = (atD ((shL b.opns c).take b.thr.toNat) 0, 0) := by
  have hC := ChkB.of h
  have ht := hC.new.t1
  have htn := hC.new.tn
  have h24 := hC.new.n24
  have h0 : 0 < (shL b.opns c).length := by omega
  obtain ⟨i, hi, hic, -⟩ := mem_shL (List.getElem_mem h0)
  obtain ⟨x, _, hx, _⟩ := opnB_says (hC.opn i hi)
  rw [hic] at hx
  have hxl := (comAt_ok h hx).2.1
  have := join_ver (shL_nice h c) (cs := x.checks) (by omega) (by omega) (fun s hs => ?_) (by omega)
  · rw [← hxl, this, Int.toNat_natCast]
  · obtain ⟨k, hk, hkc, rfl⟩ := mem_shL hs
    obtain ⟨y, _, hy, _, _, _, _, _, _, hv⟩ := opnB_says (hC.opn k hk)
    rw [hkc, hx] at hy
    cases hy
    exact hv
/-- a number is known: revealed, or enough shares are opened -/
theorem known_iff {b : BeaD} (h : chkD b = 0) (c : Int) : (numberD b c).2 = true ↔ (∃ i, i < b.revs.length ∧ (revN b.revs i).club = c) ∨ b.thr ≤ ((shL b.opns c).length : Int) := by
  by_cases h1 : 0 ≤ revI b c
  · have e : (numberD b c).2 = true := by unfold numberD; rw [if_pos h1]
    exact ⟨fun _ => .inl (revI_has.1 h1), fun _ => e⟩
  · have hno : ¬ ∃ i, i < b.revs.length ∧ (revN b.revs i).club = c := fun hh => h1 (revI_has.2 hh)
    by_cases h2 : ((shL b.opns c).length : Int) < b.thr
    · rw [number_few h1 h2]
      refine ⟨fun hh => (by cases hh), fun hh => ?_⟩
      rcases hh with hh | hh
      · exact absurd hh hno
      · omega
    · rw [number_join h1 h2, shL_join h h2]
      exact ⟨fun _ => .inr (by omega), fun _ => rfl⟩
theorem filter_mono {α : Type} {p q : α → Bool} : ∀ (l : List α), (∀ x ∈ l, p x = true → q x = true) → (l.filter p).length ≤ (l.filter q).length
  | [], _ => Nat.le_refl _
  | x :: l, h => by
    have ih := filter_mono l (fun y hy => h y (by simp [hy]))
    rw [List.filter_cons, List.filter_cons]
    by_cases hp : p x = true
    · rw [if_pos hp, if_pos (h x (by simp) hp)]; simpa using ih
    · rw [if_neg hp]
      split
      · simp; omega
      · exact ih
theorem miss_mono {b b' : BeaD} (hc : b'.clubs = b.clubs) (h : ∀ c, (numberD b c).2 = true → (numberD b' c).2 = true) : (missL b' b'.clubs.length).length ≤ (missL b b.clubs.length).length := by
  unfold missL
  rw [hc]
  refine filter_mono _ fun c _ hp => ?_
  cases hx : (numberD b c).2 with
  | false => rfl
  | true => rw [h c hx] at hp; exact absurd hp (by decide)
theorem known_rev {b : BeaD} {r : RevD} (h : chkD b = 0) (h' : chkD {b with revs := b.revs ++ [r]} = 0) (c : Int) (hk : (numberD b c).2 = true) : (numberD {b with revs := b.revs ++ [r]} c).2 = true := by
  rw [known_iff h'] 
  rw [known_iff h] at hk
  rcases hk with ⟨i, hi, hc⟩ | hk
  · refine .inl ⟨i, by show i < (b.revs ++ [r]).length; rw [List.length_append]; omega, ?_⟩
    show (revN (b.revs ++ [r]) i).club = c
    rw [revN_snoc b.revs r i (by omega), if_pos hi, hc]
  · exact .inr hk
theorem shL_snoc (l : List OpnD) (o : OpnD) (c : Int) : shL (l ++ [o]) c = shL l c ++ (if o.club = c then [o.sh] else []) := by
  unfold shL
  rw [List.filter_append, List.map_append]
  by_cases e : o.club = c <;> simp [e]
theorem known_opn {b : BeaD} {o : OpnD} (h : chkD b = 0) (h' : chkD {b with opns := b.opns ++ [o]} = 0) (c : Int) (hk : (numberD b c).2 = true) : (numberD {b with opns := b.opns ++ [o]} c).2 = true := by
  rw [known_iff h'] 
  rw [known_iff h] at hk
  rcases hk with hk | hk
  · exact .inl hk
  · refine .inr ?_
    show b.thr ≤ ((shL (b.opns ++ [o]) c).length : Int)
    rw [shL_snoc, List.length_append]
    omega
theorem known_com {b : BeaD} {x : ComD} (h : chkD b = 0) (hr : b.revs = []) (ho : b.opns = []) (c : Int) (hk : (numberD b c).2 = true) : (numberD {b with coms := b.coms ++ [x]} c).2 = true := by
  rw [known_iff h] at hk
  have := (ChkB.of h).new.t1
  rcases hk with ⟨i, hi, _⟩ | hk
  · rw [hr] at hi; exact absurd hi (by simp)
  · rw [ho] at hk
    have hk' : b.thr ≤ 0 := hk
    omega
end Go.Proofs.Ytgaanndidcdbpaa
/- Plain: a beacon to which all have committed with polynomials, and what is added to it. -/
namespace Go.Proofs.Ytgaanndidcdbpaa
open Go.RowKit Go.Shelf

theorem cl_mono {cl : List Int} (h : clubsTo cl cl.length) : ∀ (j i : Nat), i < j → j < cl.length → nthI cl i < nthI cl j
  | 0, i, hi, _ => absurd hi (by omega)
  | j + 1, i, hi, hj => by
    have h1 := (h (j + 1) hj).2.2 (by omega)
    rw [Nat.add_sub_cancel] at h1
    rcases Nat.lt_or_ge i j with h2 | h2
    · have := cl_mono h j i h2 (by omega); omega
    · rw [show i = j by omega]; exact h1
theorem cl_inj {cl : List Int} (h : clubsTo cl cl.length) {i j : Nat} (hi : i < cl.length) (hj : j < cl.length) (e : nthI cl i = nthI cl j) : i = j := by
  rcases Nat.lt_trichotomy i j with h1 | h1 | h1
  · have := cl_mono h j i h1 hj; omega
  · exact h1
  · have := cl_mono h i j h1 hi; omega
theorem placeTo_at {cl : List Int} (h : clubsTo cl cl.length) {i : Nat} : ∀ {k : Nat}, k ≤ cl.length → i < k → placeTo cl k (nthI cl i) = some i
  | 0, _, hi => absurd hi (by omega)
  | k + 1, hk, hi => by
    show (if nthI cl i = nthI cl k then some k else placeTo cl k (nthI cl i)) = some i
    by_cases e : nthI cl i = nthI cl k
    · rw [if_pos e, cl_inj h (by omega) (by omega) e]
    · rw [if_neg e, placeTo_at h (by omega) (by
        rcases Nat.lt_or_ge i k with h1 | h1
        · exact h1
        · exact absurd (by rw [show i = k by omega]) e)]
/-- all have committed -/
structure St (cl : List Int) (t : Int) (of : Nat) (ps : List (List Nat)) : Prop where
  new : NewOk cl t of
  len : ps.length = cl.length
  pl : ∀ k, k < cl.length → ((polN ps k).length : Int) = t
  pok : ∀ k, k < cl.length → allD coefOk (polN ps k) = true
  chk : chkD (stB cl t of ps cl.length) = 0
theorem commitD_chk {b : BeaD} {c : ComD} (h : (commitD b c).2 = 0) : chkD (commitD b c).1 = 0 := by
  obtain ⟨h1, h2, h3⟩ := commitD_facts h
  rw [commitD_yes h]
  exact chk_com h1 h2 h3
theorem St.of {cl : List Int} {t : Int} {of : Nat} {ps : List (List Nat)} (h : startB cl t of ps = true) : St cl t of ps := by
  unfold startB at h
  simp only [Bool.and_eq_true, beq_iff_eq, List.all_eq_true, decide_eq_true_eq, List.mem_range] at h
  obtain ⟨h1, h2, h3⟩ := h
  have hn := (newD_yes (ps := ps) h1).2
  have h2' := hn.n2
  refine ⟨hn, h2, fun k hk => (h3 k (by omega)).1, fun k hk => ?_, ?_⟩
  · have := (h3 k (by omega)).2.1
    unfold powersD at this
    split at this
    · assumption
    · cases this
  · have hk := h3 (cl.length - 1) (by omega)
    have := commitD_chk hk.2.2
    rw [stB_succ hk, show cl.length - 1 + 1 = cl.length by omega] at this
    exact this
theorem stB_com {cl : List Int} {t : Int} {of : Nat} {ps : List (List Nat)} {k i : Nat} (hi : i < k) : comN (stB cl t of ps k).coms i = polC cl ps i := by
  unfold comN stB
  rw [List.getD_eq_getElem?_getD, List.getElem?_map, List.getElem?_range hi]
  rfl
theorem stB_len {cl : List Int} {t : Int} {of : Nat} {ps : List (List Nat)} {k : Nat} : (stB cl t of ps k).coms.length = k := by simp [stB]
def p0 (ps : List (List Nat)) (c : Nat) : Nat := (polN ps c).getD 0 0
def rvO (cl : List Int) (ps : List (List Nat)) (c : Nat) : RevD := ⟨nthI cl c, p0 ps c⟩
def opO (cl : List Int) (ps : List (List Nat)) (c f : Nat) : OpnD := ⟨nthI cl c, nthI cl f, (f + 1, hor (polN ps c) (f + 1))⟩
/-- a beacon after some steps -/
structure Ov (cl : List Int) (t : Int) (of : Nat) (ps : List (List Nat)) (b : BeaD) : Prop where
  kl : b.clubs = cl
  th : b.thr = t
  rg : b.rng = of
  co : b.coms = (stB cl t of ps cl.length).coms
  chk : chkD b = 0
  rev : ∀ r ∈ b.revs, ∃ c, c < cl.length ∧ r = rvO cl ps c
  opn : ∀ o ∈ b.opns, ∃ c f, c < cl.length ∧ f < cl.length ∧ c ≠ f ∧ o = opO cl ps c f
section
variable {cl : List Int} {t : Int} {of : Nat} {ps : List (List Nat)} {b : BeaD}
theorem Ov.start (h : St cl t of ps) : Ov cl t of ps (stB cl t of ps cl.length) := ⟨rfl, rfl, rfl, rfl, h.chk, fun r hr => (by cases hr), fun o ho => (by cases ho)⟩
theorem Ov.done (h : Ov cl t of ps b) : doneB b = true := by
  rw [done_len h.chk, h.co, stB_len, h.kl]
theorem Ov.place (h : Ov cl t of ps b) (hs : St cl t of ps) {c : Nat} (hc : c < cl.length) : placeD b (nthI cl c) = some c := by
  unfold placeD; rw [h.kl]; exact placeTo_at hs.new.club (Nat.le_refl _) hc
theorem Ov.mem (h : Ov cl t of ps b) (hs : St cl t of ps) {c : Nat} (hc : c < cl.length) : memB b (nthI cl c) = true := by
  unfold memB; rw [h.place hs hc]; rfl
theorem Ov.com (h : Ov cl t of ps b) (hs : St cl t of ps) {c : Nat} (hc : c < cl.length) : comAt b (nthI cl c) = some (polC cl ps c) := by
  unfold comAt
  rw [h.co, stB_len]
  cases hx : comTo (stB cl t of ps cl.length).coms cl.length (nthI cl c) with
  | none =>
    have := comTo_none hx c hc
    rw [stB_com hc] at this
    exact absurd rfl this
  | some x =>
    obtain ⟨i, h1, rfl, h3⟩ := comTo_some hx
    rw [stB_com h1] at h3 ⊢
    have : i = c := cl_inj hs.new.club h1 hc h3
    rw [this]
theorem pol_ne (hs : St cl t of ps) {c : Nat} (hc : c < cl.length) : 1 ≤ (polN ps c).length := by
  have := hs.new.t1; have := hs.pl c hc; omega
theorem pol_lt (hs : St cl t of ps) {c : Nat} (hc : c < cl.length) : p0 ps c < 1152921504606845789 ∧ (powersD (polN ps c)).1 = (polN ps c).map (pw 4) := by
  have h1 := hs.pok c hc
  obtain ⟨l1, -, l3⟩ := all_mem h1
  refine ⟨?_, by unfold powersD; rw [if_pos h1]⟩
  have := l3 _ (List.getElem_mem (n := 0) (by omega))
  unfold p0
  rw [List.getD_eq_getElem?_getD, List.getElem?_eq_getElem (by omega)]
  simpa [coefOk] using this
theorem getD0_map {l : List Nat} (h : 1 ≤ l.length) (f : Nat → Nat) : (l.map f).getD 0 0 = f (l.getD 0 0) := by
  match l, h with
  | x :: r, _ => rfl
theorem hor_0 {l : List Nat} (h : allD coefOk l = true) : hor l 0 = l.getD 0 0 := by
  obtain ⟨l1, -, l3⟩ := all_mem h
  match l, l1, l3 with
  | x :: r, _, l3 => exact hor_zero (by simpa [coefOk] using l3 x (by simp))
/-- exactly the number that was committed to can be revealed -/
theorem Ov.revB_eq (h : Ov cl t of ps b) (hs : St cl t of ps) {c : Nat} (hc : c < cl.length) (x : Nat) : revB b ⟨nthI cl c, x⟩ = decide (x = p0 ps c) := by
  unfold revB
  obtain ⟨hp1, hp2⟩ := pol_lt hs hc
  have hn := pol_ne hs hc
  dsimp only
  rw [h.com hs hc]
  dsimp only
  rw [h.mem hs hc]
  show (true && (decide (x < 1152921504606845789) && (decide (0 < (powersD (polN ps c)).1.length) && Nat.beq (pw 4 x) ((powersD (polN ps c)).1.getD 0 0)))) = _
  rw [hp2, getD0_map hn, List.length_map, Bool.eq_iff_iff]
  simp only [Bool.and_eq_true, decide_eq_true_eq, true_and]
  constructor
  · rintro ⟨h1, h2, h3⟩
    have h3 := Nat.eq_of_beq_eq_true h3
    rw [show (polN ps c).getD 0 0 = p0 ps c from rfl, pw_E4 (lt64_Q h1), pw_E4 (lt64_Q hp1)] at h3
    exact E4_inj h1 hp1 h3
  · rintro rfl
    exact ⟨hp1, by omega, Nat.beq_refl _⟩
/-- exactly the share of the polynomial can be opened -/
theorem Ov.opnB_eq (h : Ov cl t of ps b) (hs : St cl t of ps) {c f : Nat} (hc : c < cl.length) (hf : f < cl.length) (y : Nat) : opnB b ⟨nthI cl c, nthI cl f, (f + 1, y)⟩ = decide (c ≠ f ∧ y = hor (polN ps c) (f + 1)) := by
  unfold opnB
  have h24 := hs.new.n24
  obtain ⟨hp1, hp2⟩ := pol_lt hs hc
  dsimp only
  rw [h.com hs hc]
  dsimp only
  rw [h.mem hs hc, h.mem hs hf, h.place hs hf]
  show (true && (true && (decide (nthI cl c ≠ nthI cl f) && (Nat.beq (f + 1) (f + 1) && verD (powersD (polN ps c)).1 (f + 1, y))))) = _
  rw [hp2, ver_pw (hs.pok c hc) (by omega) (by omega), Nat.beq_refl, Bool.eq_iff_iff]
  simp only [Bool.and_eq_true, decide_eq_true_eq, true_and]
  constructor
  · rintro ⟨h1, h2⟩; exact ⟨fun e => h1 (by rw [e]), h2⟩
  · rintro ⟨h1, h2⟩; exact ⟨fun e => h1 (cl_inj hs.new.club hc hf e), h2⟩
theorem revN_mem {l : List RevD} {i : Nat} (hi : i < l.length) : revN l i ∈ l := by
  unfold revN; rw [List.getD_eq_getElem?_getD, List.getElem?_eq_getElem hi]; exact List.getElem_mem hi
theorem opnN_mem {l : List OpnD} {i : Nat} (hi : i < l.length) : opnN l i ∈ l := by rw [opnN_get hi]; exact List.getElem_mem hi
/-- a number that is known is the one committed to -/
theorem Ov.num (h : Ov cl t of ps b) (hs : St cl t of ps) {c : Nat} (hc : c < cl.length) (hk : (numberD b (nthI cl c)).2 = true) : (numberD b (nthI cl c)).1 = p0 ps c := by
  by_cases h1 : 0 ≤ revI b (nthI cl c)
  · unfold numberD
    rw [if_pos h1]
    obtain ⟨h2, h3⟩ := revI_at h1
    obtain ⟨k, hk1, hk2⟩ := h.rev _ (revN_mem h2)
    rw [hk2] at h3
    have : k = c := cl_inj hs.new.club hk1 hc h3
    rw [hk2, this]; rfl
  · by_cases h2 : ((shL b.opns (nthI cl c)).length : Int) < b.thr
    · rw [number_few h1 h2] at hk; cases hk
    · rw [number_join h1 h2]
      have hl := hs.pl c hc
      obtain ⟨l1, l2, -⟩ := all_mem (hs.pok c hc)
      have hsh : ∀ s ∈ shL b.opns (nthI cl c), ∃ f, f < cl.length ∧ s = (f + 1, hor (polN ps c) (f + 1)) := fun s hss => by
        obtain ⟨i, hi, hic, rfl⟩ := mem_shL hss
        obtain ⟨k, f, hk1, hf, hkf, ho⟩ := h.opn _ (opnN_mem hi)
        rw [ho] at hic ⊢
        have : k = c := cl_inj hs.new.club hk1 hc hic
        exact ⟨f, hf, by rw [← this]; rfl⟩
      have := join_hor (shL_nice h.chk (nthI cl c)) l1 l2 (fun s hss => by
        obtain ⟨f, hf, rfl⟩ := hsh s hss
        have := hs.new.n24
        unfold shOk
        simp only [Bool.and_eq_true, decide_eq_true_eq]
        exact ⟨⟨by omega, by omega⟩, hor_lt _ _⟩) (fun s hss => by
        obtain ⟨f, hf, rfl⟩ := hsh s hss; rfl)
      rw [hl] at this
      rw [h.th, this, if_neg (by rw [h.th] at h2; omega), hor_0 (hs.pok c hc)]; rfl
theorem splitD_eq (hs : St cl t of ps) {c : Nat} (hc : c < cl.length) : splitD (polN ps c) cl.length = ((List.range cl.length).map fun i => (i + 1, hor (polN ps c) (i + 1)), 0) := by
  have := hs.new.n24; have := hs.new.n2
  unfold splitD
  rw [if_pos ⟨hs.pok c hc, by omega, by omega⟩, Int.toNat_natCast]
theorem shN_split (hs : St cl t of ps) {c f : Nat} (hc : c < cl.length) (hf : f < cl.length) : shN (splitD (polN ps c) cl.length).1 f = (f + 1, hor (polN ps c) (f + 1)) := by
  rw [splitD_eq hs hc]
  unfold shN
  rw [List.getD_eq_getElem?_getD, List.getElem?_map, List.getElem?_range hf]
  rfl
def hasR (b : BeaD) (c : Int) : Bool := (List.range b.revs.length).any (fun i => decide ((revN b.revs i).club = c))
def hasO (b : BeaD) (c f : Int) : Bool := (List.range b.opns.length).any (fun i => decide ((opnN b.opns i).club = c) && decide ((opnN b.opns i).frm = f))
/-- a reveal: nothing, if the club has revealed; else one reveal more -/
theorem Ov.play_rev (h : Ov cl t of ps b) (hs : St cl t of ps) {c : Nat} (hc : c < cl.length) :
    playC b cl ps c c = (if hasR b (nthI cl c) then b else {b with revs := b.revs ++ [rvO cl ps c]}, true) := by
  have hr : revealD b ⟨nthI cl c, (polN ps c).getD 0 0⟩ = if hasR b (nthI cl c) then (bea0, 240) else ({b with revs := b.revs ++ [rvO cl ps c]}, 0) := by
    unfold revealD
    rw [if_pos h.chk, h.done, h.revB_eq hs hc]
    show (if hasR b (nthI cl c) = true then _ else if decide ((polN ps c).getD 0 0 = p0 ps c) = true then _ else _) = _
    have e0 : decide ((polN ps c).getD 0 0 = p0 ps c) = true := decide_eq_true rfl
    rw [if_pos e0]
    rfl
  unfold playC
  rw [if_pos rfl, hr]
  cases hasR b (nthI cl c) <;> rfl
theorem Ov.play_opn (h : Ov cl t of ps b) (hs : St cl t of ps) {c f : Nat} (hc : c < cl.length) (hf : f < cl.length) (hcf : c ≠ f) :
    playC b cl ps c f = (if hasO b (nthI cl c) (nthI cl f) then b else {b with opns := b.opns ++ [opO cl ps c f]}, true) := by
  have hr : openD b ⟨nthI cl c, nthI cl f, shN (splitD (polN ps c) cl.length).1 f⟩ = if hasO b (nthI cl c) (nthI cl f) then (bea0, 240) else ({b with opns := b.opns ++ [opO cl ps c f]}, 0) := by
    rw [shN_split hs hc hf]
    unfold openD
    rw [if_pos h.chk, h.done, h.opnB_eq hs hc hf]
    show (if hasO b (nthI cl c) (nthI cl f) = true then _ else if decide (c ≠ f ∧ hor (polN ps c) (f + 1) = hor (polN ps c) (f + 1)) = true then _ else _) = _
    rw [if_pos (decide_eq_true ⟨hcf, rfl⟩)]
    rfl
  have hl : ¬ ((splitD (polN ps c) cl.length).2 ≠ 0 ∨ (splitD (polN ps c) cl.length).1.length ≠ cl.length) := by
    rw [splitD_eq hs hc]; simp
  unfold playC
  rw [if_neg hcf, if_neg hl, hr]
  cases hasO b (nthI cl c) (nthI cl f) <;> rfl
theorem Ov.addR (h : Ov cl t of ps b) (hs : St cl t of ps) {c : Nat} (hc : c < cl.length) (hn : hasR b (nthI cl c) = false) : Ov cl t of ps {b with revs := b.revs ++ [rvO cl ps c]} := by
  refine ⟨h.kl, h.th, h.rg, h.co, chk_rev h.chk h.done (by unfold rvO; rw [h.revB_eq hs hc]; simp) hn, fun r hr => ?_, h.opn⟩
  rcases List.mem_append.1 hr with h1 | h1
  · exact h.rev r h1
  · exact ⟨c, hc, by simpa using h1⟩
theorem Ov.addO (h : Ov cl t of ps b) (hs : St cl t of ps) {c f : Nat} (hc : c < cl.length) (hf : f < cl.length) (hcf : c ≠ f) (hn : hasO b (nthI cl c) (nthI cl f) = false) : Ov cl t of ps {b with opns := b.opns ++ [opO cl ps c f]} := by
  refine ⟨h.kl, h.th, h.rg, h.co, chk_opn h.chk h.done (by unfold opO; rw [h.opnB_eq hs hc hf]; simp [hcf]) hn, h.rev, fun o ho => ?_⟩
  rcases List.mem_append.1 ho with h1 | h1
  · exact h.opn o h1
  · exact ⟨c, f, hc, hf, hcf, by simpa using h1⟩
/-- every step is taken or leaves the beacon as it is -/
theorem Ov.play (h : Ov cl t of ps b) (hs : St cl t of ps) {c f : Nat} (hc : c < cl.length) (hf : f < cl.length) : Ov cl t of ps (playC b cl ps c f).1 ∧ (playC b cl ps c f).2 = true := by
  by_cases hcf : c = f
  · subst hcf
    rw [h.play_rev hs hc]
    refine ⟨?_, rfl⟩
    cases hx : hasR b (nthI cl c)
    · exact h.addR hs hc hx
    · exact h
  · rw [h.play_opn hs hc hf hcf]
    refine ⟨?_, rfl⟩
    cases hx : hasO b (nthI cl c) (nthI cl f)
    · exact h.addO hs hc hf hcf hx
    · exact h
theorem hasR_iff {b : BeaD} {c : Int} : hasR b c = true ↔ ∃ i, i < b.revs.length ∧ (revN b.revs i).club = c := by
  unfold hasR
  rw [List.any_eq_true]
  constructor
  · rintro ⟨i, h1, h2⟩; exact ⟨i, List.mem_range.1 h1, by simpa using h2⟩
  · rintro ⟨i, h1, h2⟩; exact ⟨i, List.mem_range.2 h1, by simpa using h2⟩
theorem hasR_known (h : chkD b = 0) {c : Int} (hr : hasR b c = true) : (numberD b c).2 = true := (known_iff h c).2 (.inl (hasR_iff.1 hr))
theorem hasR_add {b : BeaD} {c : Int} {r : RevD} : hasR {b with revs := b.revs ++ [r]} c = (hasR b c || decide (r.club = c)) := by
  rw [Bool.eq_iff_iff, hasR_iff, Bool.or_eq_true, hasR_iff, decide_eq_true_eq]
  have hl : ({b with revs := b.revs ++ [r]} : BeaD).revs.length = b.revs.length + 1 := by show (b.revs ++ [r]).length = _; simp
  have hN : ∀ i, i < b.revs.length + 1 → revN ({b with revs := b.revs ++ [r]} : BeaD).revs i = if i < b.revs.length then revN b.revs i else r := fun i hi => revN_snoc b.revs r i hi
  rw [hl]
  constructor
  · rintro ⟨i, h1, h2⟩
    rw [hN i h1] at h2
    split at h2
    · rename_i h3; exact .inl ⟨i, h3, h2⟩
    · exact .inr h2
  · rintro (⟨i, h1, h2⟩ | h2)
    · exact ⟨i, by omega, by rw [hN i (by omega), if_pos h1]; exact h2⟩
    · exact ⟨b.revs.length, by omega, by rw [hN _ (by omega), if_neg (by omega)]; exact h2⟩
/-- after the club's own step it has revealed; nothing is lost -/
theorem Ov.play_has (h : Ov cl t of ps b) (hs : St cl t of ps) {c f : Nat} (hc : c < cl.length) (hf : f < cl.length) (x : Int) : hasR (playC b cl ps c f).1 x = (hasR b x || (decide (c = f) && decide (nthI cl c = x))) := by
  by_cases hcf : c = f
  · subst hcf
    rw [h.play_rev hs hc]
    cases hx : hasR b (nthI cl c)
    · show hasR {b with revs := b.revs ++ [rvO cl ps c]} x = _
      rw [hasR_add, decide_eq_true (rfl : c = c)]; rfl
    · show hasR b x = _
      by_cases e : nthI cl c = x
      · rw [← e, hx]; rfl
      · simp [e]
  · rw [h.play_opn hs hc hf hcf]
    rw [show decide (c = f) = false by simpa using hcf]
    cases hx : hasO b (nthI cl c) (nthI cl f)
    · show hasR b x = _; simp
    · show hasR b x = _; simp
/-- the sum of the numbers that the clubs committed to -/
def wantTo (of : Nat) (ps : List (List Nat)) : Nat → Nat
  | 0 => 0
  | k + 1 => (wantTo of ps k + p0 ps k % of) % of
theorem missL_nil {b : BeaD} (h : missL b b.clubs.length = []) {c : Nat} (hc : c < b.clubs.length) : (numberD b (nthI b.clubs c)).2 = true := by
  unfold missL at h
  rw [List.take_length, List.filter_eq_nil_iff] at h
  have := h (nthI b.clubs c) (by rw [nthI_get hc]; exact List.getElem_mem hc)
  simpa using this
theorem missL_known {b : BeaD} (h : ∀ c, c < b.clubs.length → (numberD b (nthI b.clubs c)).2 = true) : missL b b.clubs.length = [] := by
  unfold missL
  rw [List.take_length, List.filter_eq_nil_iff]
  intro x hx
  obtain ⟨i, hi, rfl⟩ := List.getElem_of_mem hx
  have := h i hi
  rw [nthI_get hi] at this
  simp [this]
theorem Ov.sum (h : Ov cl t of ps b) (hs : St cl t of ps) (hk : ∀ c, c < cl.length → (numberD b (nthI cl c)).2 = true) : ∀ k, k ≤ cl.length → nsumTo b k = wantTo of ps k
  | 0, _ => rfl
  | k + 1, hle => by
    show (nsumTo b k + (numberD b (nthI b.clubs k)).1 % b.rng) % b.rng = (wantTo of ps k + p0 ps k % of) % of
    rw [h.sum hs hk k (by omega), h.kl, h.rg, h.num hs (by omega) (hk k (by omega))]
/-- as soon as there is a number it is the sum -/
theorem Ov.numD_eq (h : Ov cl t of ps b) (hs : St cl t of ps) : numD b = if 0 < (missL b b.clubs.length).length then (0, 242) else (wantTo of ps cl.length, 0) := by
  have e : missD b = (missL b b.clubs.length, 0) := by unfold missD; rw [if_pos h.chk]
  unfold numD
  rw [e, if_neg (fun hh => hh rfl)]
  by_cases h0 : 0 < (missL b b.clubs.length).length
  · rw [if_pos h0, if_pos h0]
  · rw [if_neg h0, if_neg h0]
    have hm : missL b b.clubs.length = [] := List.length_eq_zero_iff.1 (by omega)
    have hk : ∀ c, c < cl.length → (numberD b (nthI cl c)).2 = true := fun c hc => by
      have := missL_nil hm (c := c) (by rw [h.kl]; exact hc)
      rwa [h.kl] at this
    show (nsumTo b b.clubs.length, (0 : Int)) = _
    rw [h.kl, h.sum hs hk _ (Nat.le_refl _)]
end
end Go.Proofs.Ytgaanndidcdbpaa
/- Plain: beacons after some steps are small; boxes that hold a beacon. -/
namespace Go.Proofs.Ytgaanndidcdbpaa
open Go.RowKit Go.Shelf

theorem fewD_len {cl : List Int} {ps : List (List Nat)} {n : Nat} (h : fewD cl ps n = true) : cl.length ≤ 4 ∧ ps.length ≤ 4 ∧ n ≤ 14 := by
  unfold fewD at h
  simp only [Bool.and_eq_true, decide_eq_true_eq] at h
  omega
section
variable {cl : List Int} {t : Int} {of : Nat} {ps : List (List Nat)} {b : BeaD}
theorem wantTo_lt (h : 1 ≤ of) : ∀ k, wantTo of ps k < of
  | 0 => h
  | _ + 1 => Nat.mod_lt _ h
theorem Ov.revs_le (h : Ov cl t of ps b) : b.revs.length ≤ cl.length := by
  have hC := ChkB.of h.chk
  have := coms_le (b := b) (fun i => (revN b.revs i).club) b.revs.length hC.revD fun i hi => by
    have := hC.rev i hi
    unfold revB at this
    split at this
    · cases this
    · simp only [Bool.and_eq_true] at this; exact this.1
  rwa [h.kl] at this
theorem Ov.opns_le (h : Ov cl t of ps b) : b.opns.length ≤ cl.length * cl.length := by
  have hC := ChkB.of h.chk
  have hex : ∀ i, ∃ y : Nat × Nat, i < b.opns.length → y.1 < cl.length ∧ y.2 < cl.length ∧ opnN b.opns i = opO cl ps y.1 y.2 := fun i => by
    by_cases hi : i < b.opns.length
    · obtain ⟨c, f, h1, h2, -, h3⟩ := h.opn _ (opnN_mem hi)
      exact ⟨(c, f), fun _ => ⟨h1, h2, h3⟩⟩
    · exact ⟨(0, 0), fun hh => absurd hh hi⟩
  obtain ⟨G, hG⟩ : ∃ G : Nat → Nat × Nat, ∀ i, i < b.opns.length → (G i).1 < cl.length ∧ (G i).2 < cl.length ∧ opnN b.opns i = opO cl ps (G i).1 (G i).2 := ⟨fun i => (hex i).choose, fun i => (hex i).choose_spec⟩
  refine pigeon (cl.length * cl.length) b.opns.length (fun i => (G i).1 * cl.length + (G i).2) (fun i hi => ?_) (fun i j hi hj e => ?_)
  · obtain ⟨h1, h2, -⟩ := hG i hi
    have := Nat.mul_le_mul_right cl.length (Nat.succ_le_of_lt h1)
    rw [Nat.succ_mul] at this
    show (G i).1 * cl.length + (G i).2 < _
    omega
  · obtain ⟨h1, h2, h3⟩ := hG i hi
    obtain ⟨h4, h5, h6⟩ := hG j hj
    have e' : (G i).1 * cl.length + (G i).2 = (G j).1 * cl.length + (G j).2 := e
    have hn : 0 < cl.length := by omega
    have hd : ∀ a b : Nat, b < cl.length → (a * cl.length + b) / cl.length = a := fun a b hb => by
      rw [Nat.mul_comm, Nat.mul_add_div hn, Nat.div_eq_of_lt hb, Nat.add_zero]
    have e1 : (G i).1 = (G j).1 := by rw [← hd (G i).1 (G i).2 h2, e', hd _ _ h5]
    have e2 : (G i).2 = (G j).2 := by rw [e1] at e'; omega
    exact hC.opnD i j hi hj (by rw [h3, h6, e1]; rfl) (by rw [h3, h6, e2]; rfl)
theorem Ov.small (h : Ov cl t of ps b) (hs : St cl t of ps) (hw : ∀ i, i < cl.length → W64 (nthI cl i)) : SmallB b := by
  have h24 := hs.new.n24
  have h0 := stB_small (ps := ps) hs.new hw (Nat.le_refl _)
  have hr := h.revs_le
  have ho := h.opns_le
  have hsq : cl.length * cl.length ≤ 24 * 24 := Nat.mul_le_mul h24 h24
  refine ⟨by rw [h.kl]; omega, by rw [h.co]; exact h0.co, by omega, by omega, by rw [h.kl]; exact hw, by rw [h.co]; exact h0.coW, by rw [h.co]; exact h0.chW, fun i hi => ?_, fun i hi => ?_, by rw [h.rg]; exact h0.rg, by rw [h.th]; exact h0.th⟩
  · obtain ⟨c, hc, e⟩ := h.rev _ (revN_mem hi)
    rw [e]
    exact ⟨hw c hc, Nat.lt_trans (pol_lt hs hc).1 (by decide)⟩
  · obtain ⟨c, f, hc, hf, -, e⟩ := h.opn _ (opnN_mem hi)
    rw [e]
    exact ⟨hw c hc, hw f hf, by show f + 1 < _; omega, Nat.lt_trans (hor_lt _ _) (by decide)⟩
end
/-- a box that holds a beacon; nothing of the beacon lies in the box -/
def BoxN (w : World) (g : Nat) (b : BeaD) : Prop := ∃ (y0 : Option Addr) (y1 y2 : Nat) (y3 y4 : Int) (y5 : Option Addr) (y6 y7 : Nat) (y8 : Option Addr) (y9 y10 : Nat) (y11 : Option Addr) (y12 y13 : Nat), w.heap[g]? = some (.cells #[.slice y0 y1 y2, .int .i64 y3, .int .u64 y4, .slice y5 y6 y7, .slice y8 y9 y10, .slice y11 y12 y13] 32 (0, 0)) ∧ IsBea w (fun q => q ≠ g) (.agg #[.slice y0 y1 y2, .int .i64 y3, .int .u64 y4, .slice y5 y6 y7, .slice y8 y9 y10, .slice y11 y12 y13]) b
theorem BoxN.lt {w : World} {g : Nat} {b : BeaD} (h : BoxN w g b) : g < w.heap.size := by
  obtain ⟨y0, y1, y2, y3, y4, y5, y6, y7, y8, y9, y10, y11, y12, y13, k, -⟩ := h; exact lt_heap k
theorem BoxN.below {w w' : World} {g : Nat} {b : BeaD} (h : BoxN w g b) (hb : Below w.heap.size w w') : BoxN w' g b := by
  have hg := h.lt
  obtain ⟨y0, y1, y2, y3, y4, y5, y6, y7, y8, y9, y10, y11, y12, y13, k, i⟩ := h
  exact ⟨y0, y1, y2, y3, y4, y5, y6, y7, y8, y9, y10, y11, y12, y13, (hb.block _ hg).trans k, i.below hb⟩
/-- a beacon out of a call is put into the box -/
theorem BoxN.set {w w' : World} {g : Nat} {b b' : BeaD} (h : BoxN w g b) (hb : Below w.heap.size w w') {y0 : Option Addr} {y1 y2 : Nat} {y3 y4 : Int} {y5 : Option Addr} {y6 y7 : Nat} {y8 : Option Addr} {y9 y10 : Nat} {y11 : Option Addr} {y12 y13 : Nat} (hv : IsBea w' (fun q => q ≠ g ∨ w.heap.size ≤ q) (.agg #[.slice y0 y1 y2, .int .i64 y3, .int .u64 y4, .slice y5 y6 y7, .slice y8 y9 y10, .slice y11 y12 y13]) b') :
    BoxN (w6 w' g (.slice y0 y1 y2) (.int .i64 y3) (.int .u64 y4) (.slice y5 y6 y7) (.slice y8 y9 y10) (.slice y11 y12 y13)) g b' := by
  have hg := h.lt
  obtain ⟨z0, z1, z2, z3, z4, z5, z6, z7, z8, z9, z10, z11, z12, z13, k, -⟩ := h.below hb
  refine ⟨y0, y1, y2, y3, y4, y5, y6, y7, y8, y9, y10, y11, y12, y13, w6_at k _ _ _ _ _ _, ?_⟩
  have hv' := IsBea.mono (M' := fun q => q ≠ g) hv (fun q _ hq => by
    rcases hq with hq | hq
    · exact hq
    · show q ≠ g; omega)
  exact hv'.keep fun p hp _ => World.cell?_of_block (w := w') (w6_other hp _ _ _ _ _ _)
theorem cell_map {W : World} {p : Addr} {es : _} {c : _} (h : W.heap[p.block]? = some (.map es c)) : W.cell? p = none := by unfold World.cell?; rw [h]
/-- a map is written: the box is as it was -/
theorem BoxN.maps {w w' : World} {g bm : Nat} {b : BeaD} (h : BoxN w g b) (hg : w.grownBy w' (some bm)) (h1 : ∃ es c, w.heap[bm]? = some (.map es c)) (h2 : ∃ es c, w'.heap[bm]? = some (.map es c)) (hne : bm ≠ g) : BoxN w' g b := by
  have hl := h.lt
  obtain ⟨y0, y1, y2, y3, y4, y5, y6, y7, y8, y9, y10, y11, y12, y13, k, i⟩ := h
  obtain ⟨es, c, h1⟩ := h1
  obtain ⟨es', c', h2⟩ := h2
  refine ⟨y0, y1, y2, y3, y4, y5, y6, y7, y8, y9, y10, y11, y12, y13, (hg.block _ hl (fun e => hne (Option.some.inj e.symm))).trans k, i.keep fun p _ hp => ?_⟩
  by_cases e : p.block = bm
  · rw [cell_map (by rw [e]; exact h2), cell_map (by rw [e]; exact h1)]
  · exact World.cell?_of_block (w := w) (hg.block _ hp (fun e2 => e (Option.some.inj e2)))
/-- steps in memory -/
def stC (s : Nat × Nat) (j : Nat) : Value := if j = 0 then .int .u8 (s.1 : Int) else .int .u8 (s.2 : Int)
def IsSteps (w : World) (M : Nat → Prop) (v : Value) (ss : List (Nat × Nat)) : Prop := IsSl w M 2 v ss.length (fun i j => stC (ss.getD i (0, 0)) j)
theorem IsSteps.at_ {w wr : World} {M : Nat → Prop} {A : Option Addr} {n c i : Nat} {ss : List (Nat × Nat)} (h : IsSteps w M (.slice A n c) ss) (hb : Below w.heap.size w wr) (hi : i < ss.length) :
    ∃ g off, A = some ⟨g, off, none⟩ ∧ g < w.heap.size ∧ wr.cell? ⟨g, off + i * 2, none⟩ = some (.int .u8 ((ss.getD i (0, 0)).1 : Int)) ∧ wr.cell? ⟨g, off + i * 2 + 1, none⟩ = some (.int .u8 ((ss.getD i (0, 0)).2 : Int)) := by
  obtain ⟨A', c', e, _, _, h3⟩ := h
  cases e
  obtain ⟨g, off, e, _, hl, hc, hc1⟩ := h3.at2 hb hi
  exact ⟨g, off, e, hl, hc, hc1⟩
end Go.Proofs.Ytgaanndidcdbpaa
/- Plain: what is added to a valid beacon keeps it valid. -/
namespace Go.Proofs.Ytgaanndidcdbpaa
open Go.RowKit Go.Shelf

/-- the numbers of a beacon are of 64 bits, its lists of checks are no longer than memory -/
structure SizedB (b : BeaD) : Prop where
  clW : ∀ i, i < b.clubs.length → W64 (nthI b.clubs i)
  coW : ∀ i, i < b.coms.length → W64 (comN b.coms i).club
  chW : ∀ i, i < b.coms.length → U64s (comN b.coms i).checks ∧ (comN b.coms i).checks.length ≤ 140737488355328
  reW : ∀ i, i < b.revs.length → W64 (revN b.revs i).club ∧ (revN b.revs i).num < 18446744073709551616
  opW : ∀ i, i < b.opns.length → W64 (opnN b.opns i).club ∧ W64 (opnN b.opns i).frm ∧ (opnN b.opns i).sh.1 < 18446744073709551616 ∧ (opnN b.opns i).sh.2 < 18446744073709551616
  rg : b.rng < 18446744073709551616
  th : W64 b.thr
theorem small_few {b : BeaD} (h : FewD b = true) (hs : SizedB b) : SmallB b := by
  obtain ⟨h1, h2, h3, h4⟩ := FewD_len h
  exact ⟨by omega, by omega, by omega, by omega, hs.clW, hs.coW, hs.chW, hs.reW, hs.opW, hs.rg, hs.th⟩
def bzD (b : BeaD) (c : ComD) (r : RevD) (o : OpnD) : Nat → BeaD × Int
  | 0 => commitD b c
  | 1 => revealD b r
  | _ => openD b o
section
variable {b : BeaD} {c : ComD} {r : RevD} {o : OpnD}
theorem valid_no (h : chkD b ≠ 0) (k : Nat) : (bzD b c r o k).2 = chkD b := by
  match k with
  | 0 => show (commitD b c).2 = _; unfold commitD; rw [if_neg h]
  | 1 => show (revealD b r).2 = _; unfold revealD; rw [if_neg h]
  | k + 2 => show (openD b o).2 = _; unfold openD; rw [if_neg h]
theorem valid_full (h : chkD b = 0) : (b.coms.length = b.clubs.length → (bzD b c r o 0).2 ≠ 0) ∧ (b.coms.length ≠ b.clubs.length → (bzD b c r o 1).2 ≠ 0 ∧ (bzD b c r o 2).2 ≠ 0) := by
  refine ⟨fun hf he => ?_, fun hf => ⟨fun he => ?_, fun he => ?_⟩⟩
  · obtain ⟨h1, h2, h3⟩ := commitD_facts (b := b) (c := c) he
    have := com_room h1 h2 h3
    omega
  · exact hf ((done_len h).1 (revealD_yes (b := b) (r := r) he).2.2.1)
  · exact hf ((done_len h).1 (openD_yes (b := b) (o := o) he).2.2.1)
theorem missD_of (h : chkD b = 0) : missD b = (missL b b.clubs.length, 0) := by unfold missD; rw [if_pos h]
theorem valid_step (h : chkD b = 0) (k : Nat) (hk : (bzD b c r o k).2 = 0) :
    chkD (bzD b c r o k).1 = 0 ∧ (missD (bzD b c r o k).1).2 = 0 ∧ (missD (bzD b c r o k).1).1.length ≤ (missD b).1.length ∧ (bzD b c r o k).1.coms.length + (bzD b c r o k).1.revs.length + (bzD b c r o k).1.opns.length = b.coms.length + b.revs.length + b.opns.length + 1 := by
  have key : ∀ b' : BeaD, chkD b' = 0 → b'.clubs = b.clubs → (∀ c, (numberD b c).2 = true → (numberD b' c).2 = true) → (missD b').2 = 0 ∧ (missD b').1.length ≤ (missD b).1.length := fun b' h' hc hm => by
    rw [missD_of h', missD_of h]
    exact ⟨rfl, miss_mono hc hm⟩
  match k with
  | 0 =>
    obtain ⟨h1, h2, h3⟩ := commitD_facts (b := b) (c := c) hk
    have h4 := chk_com h1 h2 h3
    have hroom := com_room h1 h2 h3
    have hnd : doneB b ≠ true := fun e => by have := (done_len h).1 e; omega
    obtain ⟨hr, ho⟩ := (ChkB.of h).done.resolve_left hnd
    have e : (bzD b c r o 0).1 = {b with coms := b.coms ++ [c]} := commitD_yes hk
    rw [e]
    obtain ⟨q1, q2⟩ := key _ h4 rfl (known_com h hr ho)
    exact ⟨h4, q1, q2, by show (b.coms ++ [c]).length + _ + _ = _; rw [List.length_append]; simp; omega⟩
  | 1 =>
    obtain ⟨e, h1, h2, h3, h5⟩ := revealD_yes (b := b) (r := r) hk
    have h4 := chk_rev h1 h2 h3 h5
    have e' : (bzD b c r o 1).1 = {b with revs := b.revs ++ [r]} := e
    rw [e']
    obtain ⟨q1, q2⟩ := key _ h4 rfl (known_rev h h4)
    exact ⟨h4, q1, q2, by show _ + (b.revs ++ [r]).length + _ = _; rw [List.length_append]; simp; omega⟩
  | k + 2 =>
    obtain ⟨e, h1, h2, h3, h5⟩ := openD_yes (b := b) (o := o) hk
    have h4 := chk_opn h1 h2 h3 h5
    have e' : (bzD b c r o (k + 2)).1 = {b with opns := b.opns ++ [o]} := e
    rw [e']
    obtain ⟨q1, q2⟩ := key _ h4 rfl (known_opn h h4)
    exact ⟨h4, q1, q2, by show _ + _ + (b.opns ++ [o]).length = _; rw [List.length_append]; simp; omega⟩
theorem valid_small (h : SmallB b) (hc : b.coms.length ≤ 900 ∧ b.revs.length ≤ 900 ∧ b.opns.length ≤ 900) (hC : W64 c.club ∧ U64s c.checks ∧ c.checks.length ≤ 140737488355328) (hR : W64 r.club ∧ r.num < 18446744073709551616) (hO : W64 o.club ∧ W64 o.frm ∧ o.sh.1 < 18446744073709551616 ∧ o.sh.2 < 18446744073709551616)
    (k : Nat) (hk : (bzD b c r o k).2 = 0) : SmallB (bzD b c r o k).1 := by
  match k with
  | 0 =>
    have e : (bzD b c r o 0).1 = {b with coms := b.coms ++ [c]} := commitD_yes hk
    rw [e]; exact small_com h hc.1 hC.1 hC.2
  | 1 =>
    have e : (bzD b c r o 1).1 = {b with revs := b.revs ++ [r]} := (revealD_yes (b := b) (r := r) hk).1
    rw [e]; exact small_rev h hc.2.1 hR
  | k + 2 =>
    have e : (bzD b c r o (k + 2)).1 = {b with opns := b.opns ++ [o]} := (openD_yes (b := b) (o := o) hk).1
    rw [e]; exact small_opn h hc.2.2 hO
end
end Go.Proofs.Ytgaanndidcdbpaa
/- Plain: one club is silent, its shares are opened. -/
namespace Go.Proofs.Ytgaanndidcdbpaa
open Go.RowKit Go.Shelf

theorem hasO_iff {b : BeaD} {c f : Int} : hasO b c f = true ↔ ∃ i, i < b.opns.length ∧ (opnN b.opns i).club = c ∧ (opnN b.opns i).frm = f := by
  unfold hasO
  rw [List.any_eq_true]
  constructor
  · rintro ⟨i, h1, h2⟩
    simp only [Bool.and_eq_true, decide_eq_true_eq] at h2
    exact ⟨i, List.mem_range.1 h1, h2.1, h2.2⟩
  · rintro ⟨i, h1, h2, h3⟩; exact ⟨i, List.mem_range.2 h1, by simp [h2, h3]⟩
theorem hasO_add {b : BeaD} {c f : Int} {o : OpnD} : hasO {b with opns := b.opns ++ [o]} c f = (hasO b c f || (decide (o.club = c) && decide (o.frm = f))) := by
  rw [Bool.eq_iff_iff, hasO_iff, Bool.or_eq_true, hasO_iff, Bool.and_eq_true, decide_eq_true_eq, decide_eq_true_eq]
  have hl : ({b with opns := b.opns ++ [o]} : BeaD).opns.length = b.opns.length + 1 := by show (b.opns ++ [o]).length = _; simp
  have hN : ∀ i, i < b.opns.length + 1 → opnN ({b with opns := b.opns ++ [o]} : BeaD).opns i = if i < b.opns.length then opnN b.opns i else o := fun i hi => opnN_snoc b.opns o i hi
  rw [hl]
  constructor
  · rintro ⟨i, h1, h2⟩
    rw [hN i h1] at h2
    split at h2
    · rename_i h3; exact .inl ⟨i, h3, h2⟩
    · exact .inr h2
  · rintro (⟨i, h1, h2⟩ | h2)
    · exact ⟨i, by omega, by rw [hN i (by omega), if_pos h1]; exact h2⟩
    · exact ⟨b.opns.length, by omega, by rw [hN _ (by omega), if_neg (by omega)]; exact h2⟩
section
variable {cl : List Int} {t : Int} {of : Nat} {ps : List (List Nat)} {b : BeaD} {s : Nat}
/-- the others have revealed up to club k, nothing is opened -/
structure RvI (cl : List Int) (t : Int) (of : Nat) (ps : List (List Nat)) (s k : Nat) (b : BeaD) : Prop where
  ov : Ov cl t of ps b
  rv : ∀ j, j < k → j ≠ s → hasR b (nthI cl j) = true
  no : hasR b (nthI cl s) = false
  op : b.opns = []
theorem RvI.start (hs : St cl t of ps) : RvI cl t of ps s 0 (stB cl t of ps cl.length) := ⟨Ov.start hs, fun j hj => absurd hj (by omega), rfl, rfl⟩
theorem RvI.skip {k : Nat} (h : RvI cl t of ps s k b) (e : k = s) : RvI cl t of ps s (k + 1) b := ⟨h.ov, fun j hj hne => h.rv j (by omega) hne, h.no, h.op⟩
theorem RvI.step {k : Nat} (h : RvI cl t of ps s k b) (hs : St cl t of ps) (hk : k < cl.length) (hsl : s < cl.length) (hne : k ≠ s) : RvI cl t of ps s (k + 1) (playC b cl ps k k).1 := by
  have hh := fun x => h.ov.play_has hs hk hk x
  refine ⟨(h.ov.play hs hk hk).1, fun j hj hjs => ?_, ?_, ?_⟩
  · rw [hh]
    rcases Nat.lt_or_ge j k with h1 | h1
    · rw [h.rv j h1 hjs]; rfl
    · rw [show j = k by omega]; simp
  · rw [hh, h.no]
    have : nthI cl k ≠ nthI cl s := fun e => hne (cl_inj hs.new.club hk hsl e)
    simp [this]
  · rw [h.ov.play_rev hs hk]
    cases hasR b (nthI cl k) <;> exact h.op
/-- all others have revealed; shares of the silent club alone are opened -/
structure OpI (cl : List Int) (t : Int) (of : Nat) (ps : List (List Nat)) (s : Nat) (b : BeaD) : Prop where
  ov : Ov cl t of ps b
  rv : ∀ j, j < cl.length → j ≠ s → hasR b (nthI cl j) = true
  no : hasR b (nthI cl s) = false
  op : ∀ o ∈ b.opns, o.club = nthI cl s
theorem RvI.toOp (h : RvI cl t of ps s cl.length b) : OpI cl t of ps s b := ⟨h.ov, h.rv, h.no, fun o ho => by rw [h.op] at ho; cases ho⟩
theorem OpI.step (h : OpI cl t of ps s b) (hs : St cl t of ps) {f : Nat} (hsl : s < cl.length) (hf : f < cl.length) (hne : s ≠ f) :
    OpI cl t of ps s (playC b cl ps s f).1 ∧ (playC b cl ps s f).2 = true ∧ (playC b cl ps s f).1.opns.length = b.opns.length + (if hasO b (nthI cl s) (nthI cl f) = true then 0 else 1) ∧ ∀ k, k < cl.length → hasO (playC b cl ps s f).1 (nthI cl s) (nthI cl k) = (decide (k = f) || hasO b (nthI cl s) (nthI cl k)) := by
  have hp := h.ov.play hs hsl hf
  rw [h.ov.play_opn hs hsl hf hne] at hp ⊢
  cases hx : hasO b (nthI cl s) (nthI cl f)
  · rw [hx] at hp
    refine ⟨⟨hp.1, h.rv, h.no, fun o ho => ?_⟩, rfl, ?_, fun k hk => ?_⟩
    · rcases List.mem_append.1 ho with h1 | h1
      · exact h.op o h1
      · have : o = opO cl ps s f := by simpa using h1
        rw [this]; rfl
    · show (b.opns ++ [opO cl ps s f]).length = b.opns.length + 1; rw [List.length_append]; rfl
    · show hasO {b with opns := b.opns ++ [opO cl ps s f]} _ _ = _
      rw [hasO_add]
      have e1 : decide ((opO cl ps s f).club = nthI cl s) = true := decide_eq_true rfl
      have e2 : decide ((opO cl ps s f).frm = nthI cl k) = decide (k = f) := by
        rw [Bool.eq_iff_iff, decide_eq_true_eq, decide_eq_true_eq]
        exact ⟨fun e => (cl_inj hs.new.club hf hk e).symm, fun e => by rw [e]; rfl⟩
      rw [e1, e2, Bool.true_and, Bool.or_comm]
  · rw [hx] at hp
    refine ⟨h, rfl, rfl, fun k hk => ?_⟩
    show hasO b _ _ = _
    by_cases e : k = f
    · rw [e, hx]; simp
    · simp [e]
theorem OpI.shl (h : OpI cl t of ps s b) : (shL b.opns (nthI cl s)).length = b.opns.length := by
  unfold shL
  rw [List.length_map, List.filter_eq_self.2]
  intro o ho
  exact decide_eq_true (h.op o ho)
theorem OpI.known (h : OpI cl t of ps s b) (_ : St cl t of ps) {c : Nat} (hc : c < cl.length) (_ : s < cl.length) : (numberD b (nthI cl c)).2 = (decide (c ≠ s) || decide (t ≤ (b.opns.length : Int))) := by
  rw [Bool.eq_iff_iff, known_iff h.ov.chk, Bool.or_eq_true, decide_eq_true_eq, decide_eq_true_eq]
  by_cases e : c = s
  · subst e
    have hno : ¬ ∃ i, i < b.revs.length ∧ (revN b.revs i).club = nthI cl c := fun hh => by
      have := hasR_iff.2 hh
      rw [h.no] at this; cases this
    rw [h.shl, h.ov.th]
    exact ⟨fun hh => .inr (hh.resolve_left hno), fun hh => .inr (hh.resolve_left (fun e => e rfl))⟩
  · exact ⟨fun _ => .inl e, fun _ => .inl (hasR_iff.1 (h.rv c hc e))⟩
theorem OpI.miss (h : OpI cl t of ps s b) (hs : St cl t of ps) (hsl : s < cl.length) : missL b b.clubs.length = if t ≤ (b.opns.length : Int) then [] else [nthI cl s] := by
  have key : ∀ k, k ≤ cl.length → missL b k = if s < k ∧ ¬ t ≤ (b.opns.length : Int) then [nthI cl s] else [] := by
    intro k
    induction k with
    | zero => intro _; rw [missL_zero, if_neg (by omega)]
    | succ k ih =>
      intro hk
      have hkn := h.known hs (c := k) (by omega) hsl
      have hkl : k < b.clubs.length := by rw [h.ov.kl]; omega
      by_cases e : k = s
      · by_cases ht : t ≤ (b.opns.length : Int)
        · rw [missL_no hkl (by rw [h.ov.kl, hkn]; simp [ht]), ih (by omega), if_neg (fun hh => hh.2 ht), if_neg (fun hh => hh.2 ht)]
        · rw [missL_yes hkl (by rw [h.ov.kl, hkn]; simp [ht, e]), ih (by omega), if_neg (by omega), if_pos ⟨by omega, ht⟩, h.ov.kl, e]; rfl
      · rw [missL_no hkl (by rw [h.ov.kl, hkn]; simp [e]), ih (by omega)]
        by_cases hc : s < k ∧ ¬ t ≤ (b.opns.length : Int)
        · rw [if_pos hc, if_pos ⟨by omega, hc.2⟩]
        · rw [if_neg hc, if_neg (fun hh => hc ⟨by omega, hh.2⟩)]
  rw [h.ov.kl, key _ (Nat.le_refl _)]
  by_cases ht : t ≤ (b.opns.length : Int)
  · rw [if_neg (fun hh => hh.2 ht), if_pos ht]
  · rw [if_pos ⟨hsl, ht⟩, if_neg ht]
theorem OpI.missD_eq (h : OpI cl t of ps s b) (hs : St cl t of ps) (hsl : s < cl.length) : missD b = (if t ≤ (b.opns.length : Int) then [] else [nthI cl s], 0) := by
  unfold missD; rw [if_pos h.ov.chk, h.miss hs hsl]
theorem OpI.numD_eq (h : OpI cl t of ps s b) (hs : St cl t of ps) (hsl : s < cl.length) : numD b = if t ≤ (b.opns.length : Int) then (wantTo of ps cl.length, 0) else (0, 242) := by
  rw [h.ov.numD_eq hs, h.miss hs hsl]
  by_cases ht : t ≤ (b.opns.length : Int)
  · rw [if_pos ht, if_pos ht]; rfl
  · rw [if_neg ht, if_neg ht]; rfl
theorem OpI.rev (h : OpI cl t of ps s b) (hs : St cl t of ps) (hsl : s < cl.length) : revealD b ⟨nthI cl s, p0 ps s⟩ = ({b with revs := b.revs ++ [rvO cl ps s]}, 0) ∧ Ov cl t of ps {b with revs := b.revs ++ [rvO cl ps s]} ∧ numD {b with revs := b.revs ++ [rvO cl ps s]} = (wantTo of ps cl.length, 0) := by
  have hov := h.ov.addR hs hsl h.no
  refine ⟨?_, hov, ?_⟩
  · unfold revealD
    rw [if_pos h.ov.chk, h.ov.done, h.ov.revB_eq hs hsl]
    show (if hasR b (nthI cl s) = true then _ else if decide (p0 ps s = p0 ps s) = true then _ else _) = _
    have e0 : decide (p0 ps s = p0 ps s) = true := decide_eq_true rfl
    rw [h.no, if_pos e0]; rfl
  · rw [hov.numD_eq hs, missL_known (fun c hc => ?_)]
    · rfl
    · have hc' : c < cl.length := by have := hov.kl; rw [this] at hc; exact hc
      have e : ({b with revs := b.revs ++ [rvO cl ps s]} : BeaD).clubs = cl := hov.kl
      rw [e]
      refine hasR_known hov.chk ?_
      rw [hasR_add]
      by_cases ec : c = s
      · rw [ec]; simp [rvO]
      · rw [h.rv c hc' ec]; rfl
end
/-- the map of the clubs whose share of the silent club is opened -/
def opnM (b : BeaD) (cl : List Int) (s : Nat) (c : Int) : Option Value := if (List.range cl.length).any (fun k => decide (c = (k : Int)) && hasO b (nthI cl s) (nthI cl k)) then some (.bool true) else none
theorem opnM_has {b : BeaD} {cl : List Int} {s f : Nat} (hf : f < cl.length) : (opnM b cl s (f : Int)).isSome = hasO b (nthI cl s) (nthI cl f) := by
  unfold opnM
  have e : (List.range cl.length).any (fun k => decide ((f : Int) = (k : Int)) && hasO b (nthI cl s) (nthI cl k)) = hasO b (nthI cl s) (nthI cl f) := by
    rw [Bool.eq_iff_iff, List.any_eq_true]
    constructor
    · rintro ⟨k, hk, h⟩
      simp only [Bool.and_eq_true, decide_eq_true_eq] at h
      have : f = k := by omega
      rw [this]; exact h.2
    · intro h
      exact ⟨f, List.mem_range.2 hf, by simp [h]⟩
  rw [e]
  cases hasO b (nthI cl s) (nthI cl f) <;> rfl
theorem opnM_upd {b b' : BeaD} {cl : List Int} {s f : Nat} (hf : f < cl.length) (h : ∀ k, k < cl.length → hasO b' (nthI cl s) (nthI cl k) = (decide (k = f) || hasO b (nthI cl s) (nthI cl k))) : updM (opnM b cl s) (f : Int) (.bool true) = opnM b' cl s := by
  funext c
  unfold updM opnM
  by_cases hc : c = (f : Int)
  · rw [if_pos hc, if_pos]
    rw [List.any_eq_true]
    exact ⟨f, List.mem_range.2 hf, by rw [h f hf]; simp [hc]⟩
  · rw [if_neg hc]
    have e : (List.range cl.length).any (fun k => decide (c = (k : Int)) && hasO b (nthI cl s) (nthI cl k)) = (List.range cl.length).any (fun k => decide (c = (k : Int)) && hasO b' (nthI cl s) (nthI cl k)) := by
      rw [Bool.eq_iff_iff, List.any_eq_true, List.any_eq_true]
      constructor
      · rintro ⟨k, hk, h2⟩
        simp only [Bool.and_eq_true, decide_eq_true_eq] at h2
        exact ⟨k, hk, by rw [h k (List.mem_range.1 hk)]; simp [h2.1, h2.2]⟩
      · rintro ⟨k, hk, h2⟩
        simp only [Bool.and_eq_true, decide_eq_true_eq] at h2
        refine ⟨k, hk, ?_⟩
        have h3 := h2.2
        rw [h k (List.mem_range.1 hk)] at h3
        have hne : k ≠ f := fun e => hc (by rw [h2.1, e])
        simp only [hne, decide_false, Bool.false_or] at h3
        simp [h2.1, h3]
    rw [e]
theorem opnM_start {b : BeaD} {cl : List Int} {s : Nat} (h : b.opns = []) : opnM b cl s = fun _ => none := by
  funext c
  unfold opnM
  rw [if_neg]
  rw [Bool.not_eq_true, List.any_eq_false]
  intro k _
  unfold hasO
  rw [h]
  simp
end Go.Proofs.Ytgaanndidcdbpaa
/- Plain: the polynomials with another number of one club; rows of polynomials in memory. -/
namespace Go.Proofs.Ytgaanndidcdbpaa
open Go.RowKit Go.Shelf

/-- the polynomials, but the number k for club s -/
def ownP (ps : List (List Nat)) (s k : Nat) : List (List Nat) := ps.set s (k :: (polN ps s).tail)
theorem ownP_len (ps : List (List Nat)) (s k : Nat) : (ownP ps s k).length = ps.length := by unfold ownP; simp
theorem ownP_at {ps : List (List Nat)} {s k : Nat} (hs : s < ps.length) (i : Nat) : polN (ownP ps s k) i = if i = s then k :: (polN ps s).tail else polN ps i := by
  unfold ownP
  conv => lhs; unfold polN
  rw [List.getD_eq_getElem?_getD, List.getElem?_set]
  by_cases e : s = i
  · subst e; rw [if_pos rfl, if_pos rfl, if_pos hs]; rfl
  · rw [if_neg e, if_neg (fun h => e h.symm)]; unfold polN; rw [List.getD_eq_getElem?_getD]
theorem ownP_p0 {ps : List (List Nat)} {s k : Nat} (hs : s < ps.length) (i : Nat) : p0 (ownP ps s k) i = if i = s then k else p0 ps i := by
  unfold p0
  rw [ownP_at hs]
  by_cases e : i = s
  · rw [if_pos e, if_pos e]; rfl
  · rw [if_neg e, if_neg e]
theorem ownP_u64 {ps : List (List Nat)} {s k : Nat} (hs : s < ps.length) (hk : k < 18446744073709551616) (hu : ∀ i, i < ps.length → U64s (polN ps i)) : ∀ i, i < (ownP ps s k).length → U64s (polN (ownP ps s k) i) := fun i hi => by
  rw [ownP_len] at hi
  rw [ownP_at hs]
  by_cases e : i = s
  · rw [if_pos e]
    intro x hx
    rcases List.mem_cons.1 hx with rfl | hx
    · exact hk
    · exact hu s hs x (List.mem_of_mem_tail hx)
  · rw [if_neg e]; exact hu i hi
theorem add_mod {of a b : Nat} (ha : a < of) (hb : b < of) : (a + b) % of = if a + b < of then a + b else a + b - of := by
  split
  · rename_i h; exact Nat.mod_eq_of_lt h
  · rename_i h; rw [Nat.mod_eq_sub_mod (by omega), Nat.mod_eq_of_lt (by omega)]
theorem add_inj {of a b c : Nat} (ha : a < of) (hb : b < of) (hc : c < of) (h : (a + c) % of = (b + c) % of) : a = b := by
  rw [add_mod ha hc, add_mod hb hc] at h
  split at h <;> split at h <;> omega
theorem want_same {of : Nat} {ps : List (List Nat)} {s : Nat} (hs : s < ps.length) (j k : Nat) : ∀ m, m ≤ s → wantTo of (ownP ps s j) m = wantTo of (ownP ps s k) m
  | 0, _ => rfl
  | m + 1, h => by
    show (wantTo of (ownP ps s j) m + p0 (ownP ps s j) m % of) % of = (wantTo of (ownP ps s k) m + p0 (ownP ps s k) m % of) % of
    rw [want_same hs j k m (by omega), ownP_p0 hs, ownP_p0 hs, if_neg (by omega), if_neg (by omega)]
/-- each number comes from one number of the club -/
theorem want_inj {of : Nat} (ho : 1 ≤ of) {ps : List (List Nat)} {s : Nat} (hs : s < ps.length) {j k : Nat} (hj : j < of) (hk : k < of) : ∀ m, s < m → wantTo of (ownP ps s j) m = wantTo of (ownP ps s k) m → j = k
  | 0, h, _ => absurd h (by omega)
  | m + 1, h, e => by
    have e' : (wantTo of (ownP ps s j) m + p0 (ownP ps s j) m % of) % of = (wantTo of (ownP ps s k) m + p0 (ownP ps s k) m % of) % of := e
    rw [ownP_p0 hs, ownP_p0 hs] at e'
    by_cases em : m = s
    · rw [if_pos em, if_pos em, want_same hs j k m (by omega), Nat.mod_eq_of_lt hj, Nat.mod_eq_of_lt hk, Nat.add_comm, Nat.add_comm _ k] at e'
      exact add_inj hj hk (wantTo_lt ho _) e'
    · rw [if_neg em, if_neg em] at e'
      exact want_inj ho hs hj hk m (by omega) (add_inj (wantTo_lt ho _) (wantTo_lt ho _) (Nat.mod_lt _ ho) e')
def ukv (x : Int) : Value := .int .u64 x
theorem ukv_inj (x y : Int) (h : ukv x = ukv y) : x = y := by unfold ukv at h; injection h
end Go.Proofs.Ytgaanndidcdbpaa
/- Rows of polynomials that the call makes. -/
namespace Go.Proofs.Ytgaanndidcdbpaa
open Go.RowKit Go.Shelf

theorem Try.infoU64s : (Try.prog.info? 35).map (fun i => (i.zero, i.size, i.bytes)) = some (some (.slice none 0 0), 1, 24) := by kernel_rfl
theorem Try.infoU64c : (Try.prog.info? 23).map (fun i => (i.zero, i.size, i.bytes)) = some (some (.int .u64 0), 1, 8) := by kernel_rfl
/-- block b1 holds the slices of polynomials, which lie below base -/
def PolsAt (w : World) (base b1 : Nat) (ps : List (List Nat)) : Prop :=
  base ≤ b1 ∧ (∃ cur, w.heap[b1]? = some (.cells cur 35 (0, 0))) ∧ ∃ vs : Nat → Value, (∀ i, i < ps.length → w.cell? ⟨b1, i, none⟩ = some (vs i)) ∧ ∀ i, i < ps.length → IsU64 w (fun q => q < base) (vs i) (polN ps i)
theorem PolsAt.below {w w' : World} {base b1 : Nat} {ps : List (List Nat)} (h : PolsAt w base b1 ps) (hb : Below w.heap.size w w') : PolsAt w' base b1 ps := by
  obtain ⟨h1, h2, vs, h3, h4⟩ := h
  obtain ⟨cur, h2⟩ := h2
  have hl := lt_heap h2
  exact ⟨h1, ⟨cur, (hb.block _ hl).trans h2⟩, vs, fun i hi => (hb.cell (p := ⟨b1, i, none⟩) hl).trans (h3 i hi), fun i hi => IsSl.below (h4 i hi) hb⟩
theorem PolsAt.cell {w w' : World} {base b1 i : Nat} {ps : List (List Nat)} (h : PolsAt w base b1 ps) (hb : Below w.heap.size w w') (hi : i < ps.length) : (∃ x, w'.cell? ⟨b1, i, none⟩ = some x) ∧ w'.frozen? ⟨b1, i, none⟩ = false := by
  obtain ⟨_, ⟨cur, h2⟩, vs, h3, _⟩ := h
  have hl := lt_heap h2
  refine ⟨⟨vs i, (hb.cell (p := ⟨b1, i, none⟩) hl).trans (h3 i hi)⟩, ?_⟩
  unfold World.frozen?
  rw [show w'.heap[b1]? = some (.cells cur 35 (0, 0)) from (hb.block _ hl).trans h2]
  simp
theorem PolsAt.lt {w : World} {base b1 : Nat} {ps : List (List Nat)} (h : PolsAt w base b1 ps) : b1 < w.heap.size := by obtain ⟨_, ⟨cur, h2⟩, _⟩ := h; exact lt_heap h2
theorem wpList_pols {ops : Array Oper} {rest : List Oper} {o : Oper} {a : Act} {w W0 : World} {Q : Exit → Act → World → Prop} (hg : o.guard = none) (s x : Operand) (hop : o.op = .call { callee := .builtin .append, args := #[s, x], argTypes := #[24, 24] })
    (base : Nat) {v : Value} (hs : a.eval s = v) (hown : w.ownsRow base 35 1 v 0 []) {A : Option Addr} {n c : Nat} (hx : a.eval x = .slice A n c) {M : Nat → Prop} {ps : List (List Nat)} (hp : IsPol W0 M (.slice A n c) ps) (hb : Below W0.heap.size W0 w) (h0 : W0.heap.size ≤ base) (hl : 0 < ps.length) (hl2 : ps.length ≤ 1000) (hbase : base ≤ w.heap.size)
    (h : ∀ b1 c1 w', Hid (PolsAt w' base b1 ps ∧ Below base w w' ∧ ps.length ≤ c1 ∧ c1 ≤ 9223372036854775807) → wpList Try.prog ops Q rest (a.put o.dst (.slice (some ⟨b1, 0, none⟩) n c1)) w') : wpList Try.prog ops Q (o :: rest) a w := by
  obtain ⟨i, hi, hz, hsz, hbt⟩ := info_parts Try.infoU64s
  obtain ⟨vs, hsl, hrow⟩ := hp
  obtain ⟨A', c', e, hc1, hc2, hcells⟩ := hsl
  cases e
  have hone : ∀ u ∈ (List.range ps.length).map vs, u.oneCell' = true := fun u hu => by
    obtain ⟨y, hy, rfl⟩ := List.mem_map.1 hu
    obtain ⟨A2, c2, e2, -⟩ := hrow y (List.mem_range.1 hy)
    rw [e2]; rfl
  refine wpList_append_cells w hg s x 24 hop base 35 i _ 1 24 Try.underlying24 hi hz hsz hbt rfl (by decide) v 0 [] hs hown A ps.length c ((List.range ps.length).map vs) hx (by simp) (fun _ => ?_) hone (by unfold maxLen; omega) (by omega) hbase fun v' w' h1 h2 _ => ?_
  · obtain ⟨b, off, rfl, -, hc⟩ := hcells hl
    refine ⟨_, rfl, fun j u hj => ?_⟩
    have hjl : j < ps.length := by have := (List.getElem?_eq_some_iff.1 hj).1; simpa using this
    have h5 := hc j 0 hjl (by omega)
    rw [Nat.mul_one, Nat.add_zero] at h5
    rw [addr_add, (hb.cell (p := ⟨b, off + j, none⟩) (lt_of_cell h5)).trans h5]
    simpa [hjl] using hj
  · have h4 : Below base w w' := (Below.refl base w).grown h2 hbase fun k e => own_base hown k e
    obtain ⟨-, h1 | ⟨g, cap, cur, rfl, hbg, hgb, hnc, hcm, hcs, htk⟩⟩ := h1
    · have := h1.2; omega
    · rw [Nat.zero_add] at hnc htk ⊢
      refine h g cap w' (Lib.hid ⟨⟨hbg, ⟨cur, hgb⟩, vs, fun i hi' => ?_, fun i hi' => ?_⟩, h4, hnc, by unfold maxLen at hcm; omega⟩)
      · refine cell_of hgb ?_
        rw [Nat.mul_one, List.nil_append] at htk
        have e1 : (cur.toList.take ps.length)[i]? = some (vs i) := by rw [htk]; simp [hi']
        rw [List.getElem?_take, if_pos hi', Array.getElem?_toList] at e1
        exact e1
      · have h6 := hrow i hi'
        have hbb : Below W0.heap.size W0 w' := hb.trans (h4.mono h0)
        refine IsSl.below (IsSl.mono h6 (fun q hq _ => by show q < base; omega) (by omega)) hbb
/-- append of numbers onto an own row of numbers -/
theorem wpList_app64 {ops : Array Oper} {rest : List Oper} {o : Oper} {a : Act} {w : World} {Q : Exit → Act → World → Prop} (hg : o.guard = none) (s x : Operand) (hop : o.op = .call { callee := .builtin .append, args := #[s, x], argTypes := #[35, 35] })
    (base : Nat) (l m : List Nat) {M : Nat → Prop} {v : Value} {A : Option Addr} {n c : Nat} (hs : a.eval s = v) (hown : w.ownsRow base 23 1 v l.length (l.map u64v)) (hx : a.eval x = .slice A n c) (hm : IsU64 w M (.slice A n c) m) (nn : Nat) (hnn : nn = (l ++ m).length) (hl : l.length + m.length < 1000000) (hbase : base ≤ w.heap.size)
    (h : ∀ A d w', Hid (IsU64 w' (fun q => base ≤ q) (.slice A nn d) (l ++ m) ∧ Below base w w') → wpList Try.prog ops Q rest (a.put o.dst (.slice A nn d)) w') : wpList Try.prog ops Q (o :: rest) a w := by
  obtain ⟨i, hi, hz, hsz, hb⟩ := info_parts Try.infoU64c
  have hm' := hm
  obtain ⟨A', c', e, -, -, -⟩ := hm
  cases e
  refine wpList_append_cells w hg s x 35 hop base 23 i _ 1 8 Try.underlying35 hi hz hsz hb rfl (by decide) v l.length (l.map u64v) hs hown A m.length c (m.map u64v) hx (by simp) (fun h0 => ?_) (fun u hu => by obtain ⟨y, -, rfl⟩ := List.mem_map.1 hu; rfl) (by unfold maxLen; omega) (by omega) hbase fun v' w' h1 h2 h3 => ?_
  · obtain ⟨b, off, rfl, -, -⟩ := hm'.at_ (Below.refl _ _) h0
    refine ⟨_, rfl, fun j u hj => ?_⟩
    have hjl : j < m.length := by have := (List.getElem?_eq_some_iff.1 hj).1; simpa using this
    obtain ⟨b2, off2, e2, -, hc⟩ := hm'.at_ (Below.refl _ _) hjl
    cases e2
    rw [addr_add, hc]
    simpa [hjl, u64v] using hj
  · obtain ⟨A, d, rfl⟩ := own_sl h1
    have h4 : Below base w w' := (Below.refl base w).grown h2 hbase fun k e => (own_lt hown k e).1
    rw [← List.length_append, ← List.map_append] at h1
    have h6 := h A d w'
    rw [hnn] at h6
    rw [← List.length_append]
    exact h6 (Lib.hid ⟨IsU64.ofOwn h1, h4⟩)
theorem own_one64 {W : World} {base g : Nat} {x : Nat} (hg : W.heap[g]? = some (.cells #[.int .u64 (x : Int)] 23 (0, 0))) (hb : base ≤ g) : W.ownsRow base 23 1 (.slice (some ⟨g, 0, none⟩) 1 1) [x].length ([x].map u64v) :=
  ⟨by simp, .inr ⟨g, 1, #[.int .u64 (x : Int)], rfl, hb, hg, Nat.le_refl _, by unfold maxLen; decide, rfl, rfl⟩⟩
/-- the rest of a polynomial -/
theorem IsU64.tail {w : World} {M : Nat → Prop} {b off n c : Nat} {xs : List Nat} (h : IsU64 w M (.slice (some ⟨b, off, none⟩) n c) xs) (h1 : 1 ≤ n) (A : Option Addr) (hA : 1 < n → A = some ⟨b, off + 1, none⟩) : IsU64 w M (.slice A (n - 1) (c - 1)) xs.tail := by
  obtain ⟨A', c', e, hc1, hc2, hc⟩ := h
  cases e
  refine ⟨A, c - 1, by rw [List.length_tail], by rw [List.length_tail]; omega, by omega, fun hn => ?_⟩
  rw [List.length_tail] at hn
  obtain ⟨b', off', e, hM, hcc⟩ := hc (by omega)
  cases e
  refine ⟨b, off + 1, hA (by omega), hM, fun i j hi hj => ?_⟩
  rw [List.length_tail] at hi
  have := hcc (i + 1) j (by omega) hj
  obtain rfl : j = 0 := by omega
  rw [show off + 1 + i * 1 + 0 = off + (i + 1) * 1 + 0 by omega, this]
  show some (Value.int .u64 ((xs.getD (i + 1) 0 : Nat) : Int)) = some (Value.int .u64 ((xs.tail.getD i 0 : Nat) : Int))
  have e : xs.getD (i + 1) 0 = xs.tail.getD i 0 := by rw [List.getD_eq_getElem?_getD, List.getD_eq_getElem?_getD, List.getElem?_tail]
  rw [e]
/-- the polynomials with another number of club s, in memory -/
theorem PolsAt.own {W1 W2 : World} {base b1 c1 s k : Nat} {ps : List (List Nat)} {A : Option Addr} {d n : Nat} (h : PolsAt W1 base b1 ps) (hb : Below W1.heap.size W1 W2) (hu : IsU64 W2 (fun q => W1.heap.size ≤ q) (.slice A n d) (k :: (polN ps s).tail)) (hs : s < ps.length) (hc : ps.length ≤ c1) (hcm : c1 ≤ 9223372036854775807) :
    IsPol (W2.setCell ⟨b1, s, none⟩ (.slice A n d)) TT (.slice (some ⟨b1, 0, none⟩) ps.length c1) (ownP ps s k) := by
  have h2 := h.lt
  obtain ⟨h1, -, vs, h3, h4⟩ := h
  have hcell : ∀ i, i < ps.length → W2.cell? ⟨b1, i, none⟩ = some (vs i) := fun i hi => (hb.cell (p := ⟨b1, i, none⟩) h2).trans (h3 i hi)
  have hoth : ∀ p : Addr, p.block ≠ b1 → (W2.setCell ⟨b1, s, none⟩ (.slice A n d)).cell? p = W2.cell? p := fun p hp => World.cell?_setCell_far _ _ _ _ (fun e => hp e.symm)
  refine ⟨fun i => if i = s then .slice A n d else vs i, ⟨_, c1, by rw [ownP_len], by rw [ownP_len]; exact hc, hcm, fun _ => ⟨b1, 0, rfl, trivial, fun i j hi hj => ?_⟩⟩, fun i hi => ?_⟩
  · rw [ownP_len] at hi
    obtain rfl : j = 0 := by omega
    rw [show 0 + i * 1 + 0 = i by omega]
    dsimp only
    by_cases e : i = s
    · subst e; rw [if_pos rfl]; exact World.cell?_setCell_same _ _ _ (hcell i hi)
    · rw [if_neg e, World.cell?_setCell_other _ _ _ _ (fun e2 => e (by injection e2 with _ e3 _; exact e3.symm))]; exact hcell i hi
  · rw [ownP_len] at hi
    rw [ownP_at hs]
    dsimp only
    by_cases e : i = s
    · rw [if_pos e, if_pos e]
      exact IsSl.mono (IsSl.keep hu (fun p hp _ => hoth p (by have : W1.heap.size ≤ p.block := hp; omega))) (fun _ _ _ => trivial) (by omega)
    · rw [if_neg e, if_neg e]
      exact IsSl.mono (IsSl.keep (IsSl.below (h4 i hi) hb) (fun p hp _ => hoth p (by have : p.block < base := hp; omega))) (fun _ _ _ => trivial) (by omega)
/-- few polynomials are short -/
def sumL (ps : List (List Nat)) : Nat → Nat
  | 0 => 0
  | k + 1 => sumL ps k + (polN ps k).length
theorem sumL_le {ps : List (List Nat)} (h : ∀ i, i < ps.length → (polN ps i).length ≤ 140737488355328) : ∀ k, k ≤ ps.length → sumL ps k ≤ k * 140737488355328
  | 0, _ => Nat.le_refl _
  | k + 1, hk => by
    have := sumL_le h k (by omega)
    have := h k (by omega)
    show sumL ps k + _ ≤ _
    omega
theorem sumL_mem (ps : List (List Nat)) (i : Nat) : ∀ k, i < k → (polN ps i).length ≤ sumL ps k
  | 0, h => absurd h (by omega)
  | k + 1, h => by
    show _ ≤ sumL ps k + (polN ps k).length
    rcases Nat.lt_or_ge i k with h1 | h1
    · have := sumL_mem ps i k h1; omega
    · rw [show i = k by omega]; omega
theorem wrap_mid {a b : Nat} (h1 : a ≤ 4 * 140737488355328) (h2 : b ≤ 140737488355328) : wrap64 ((a : Int) + (b : Int)) = (a : Int) + (b : Int) := by unfold wrap64; omega
theorem lenW_sum {ps : List (List Nat)} (h : ∀ i, i < ps.length → (polN ps i).length ≤ 140737488355328) (h4 : ps.length ≤ 4) : ∀ k, k ≤ ps.length → lenW ps k = (sumL ps k : Int)
  | 0, _ => rfl
  | k + 1, hk => by
    have h1 := sumL_le h k (by omega)
    have h2 := h k (by omega)
    show wrap64 (lenW ps k + ((polN ps k).length : Int)) = ((sumL ps k + (polN ps k).length : Nat) : Int)
    rw [lenW_sum h h4 k (by omega), Int.natCast_add]
    have h3 : sumL ps k ≤ 4 * 140737488355328 := Nat.le_trans h1 (Nat.mul_le_mul_right _ (by omega))
    exact wrap_mid h3 h2
theorem few_short {cl : List Int} {ps : List (List Nat)} {n : Nat} (hf : fewD cl ps n = true) (h : ∀ i, i < ps.length → (polN ps i).length ≤ 140737488355328) : ∀ i, i < ps.length → (polN ps i).length ≤ 12 := by
  have h4 := (fewD_len hf).2.1
  unfold fewD at hf
  simp only [Bool.and_eq_true, decide_eq_true_eq] at hf
  intro i hi
  have h1 := hf.2.2.1
  rw [lenW_sum h h4 _ (Nat.le_refl _)] at h1
  have := sumL_mem ps i ps.length hi
  omega
end Go.Proofs.Ytgaanndidcdbpaa
