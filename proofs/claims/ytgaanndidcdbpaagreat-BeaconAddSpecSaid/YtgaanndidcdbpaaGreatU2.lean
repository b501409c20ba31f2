/- The reference's commit, position, Complete. -/
import Derived.Test.YtgaanndidcdbpaaGreatU1
import Derived.Test.YtgaanndidcdbpaaGreatZI
import Derived.BigQuiet
namespace Go.Proofs.YtgaanndidcdbpaaGreat
open Go.RowKit Go.Shelf

def comI (b : BeaD) (c : Int) : Int := idxF (fun i => (comN b.coms i).club == c) b.coms.length
/-- the first commitment of a club -/
def fstC (b : BeaD) (c : Int) : ComD := if 0 ≤ comI b c then comN b.coms (comI b c).toNat else com0
def ComE (w : World) (M : Nat → Prop) (x : ComD) (ok : Bool) (e : Ending) (w' : World) : Prop := ∃ (A : Option Addr) (c : Nat), e = .returned (.tuple #[.agg #[.int .i64 x.club, .slice A x.checks.length c], .bool ok]) ∧ IsU64 w' M (.slice A x.checks.length c) x.checks ∧ Below w.heap.size w w'
set_option maxRecDepth 20000 in
set_option maxHeartbeats 4000000 in
theorem rcommit_any (w : World) (M : Nat → Prop) (v : Value) (b : BeaD) (h : IsBea w M v b) (hs : b.coms.length ≤ 1000) (c : Int) : Calls Tryz.prog 37 #[v, .int .i64 c] w (ComE w M (fstC b c) (decide (0 ≤ comI b c))) := by
  obtain ⟨cA, cc, kA, kc, rA, rc, oA, oc, rfl, i1, i2, i3, i4⟩ := h.parts
  have HI1 := Lib.hid i1
  have HI2 := Lib.hid i2
  have HI3 := Lib.hid i3
  have HI4 := Lib.hid i4
  have HBE := Lib.hid h
  have HS := Lib.hid hs
  obtain ⟨x, hx⟩ : ∃ x, x = fstC b c := ⟨_, rfl⟩
  have HX := Lib.hid hx
  obtain ⟨z, hz⟩ : ∃ z, z = decide (0 ≤ comI b c) := ⟨_, rfl⟩
  have HZ := Lib.hid hz
  rw [← hx, ← hz]
  clear h i1 i2 i3 i4 hx hz HS
  go_enter Tryz.func37, Tryz.ntmps37
  go_upto_region 1 with fail
  refine nameC fun W1 hW1 => ?_
  have hb1 : Below w.heap.size w W1 := by rw [hW1.out]; exact ((Below.refl _ _).alloc (Nat.le_refl _) _).alloc (by simp) _
  have k0 : W1.heap[w.heap.size]? = some (.cells #[.slice cA b.clubs.length cc, .int .i64 b.thr, .int .u64 (b.rng : Int), .slice kA b.coms.length kc, .slice rA b.revs.length rc, .slice oA b.opns.length oc] 28 (0, 0)) := by rw [hW1.out, heap_alloc_if, if_neg (by simp)]; exact heap_alloc_new _ _
  have k1 : W1.heap[w.heap.size + 1]? = some (.cells #[.int .i64 0, .slice none 0 0] 31 (0, 0)) := by rw [hW1.out, heap_alloc_if, if_pos (by simp)]
  have K0 := Lib.hid k0
  have K1 := Lib.hid k1
  have HB1 := Lib.hid hb1
  obtain ⟨B1, hB1⟩ : ∃ B1, B1 = w.heap.size + 1 := ⟨_, rfl⟩
  rw [← hB1] at K1 ⊢
  have HB9 := Lib.hid (show w.heap.size ≤ B1 by omega)
  clear hB1
  have m0 := cell_of (j := 0) K1.out rfl
  have m1 := cell_of (j := 1) K1.out rfl
  have fm0 : W1.frozen? ⟨B1, 0, none⟩ = false := by simp [World.frozen?, K1.out]
  have fm1 : W1.frozen? ⟨B1, 1, none⟩ = false := by simp [World.frozen?, K1.out]
  have c0 := cell_of (j := 0) K0.out rfl
  have c1 := cell_of (j := 1) K0.out rfl
  have c2 := cell_of (j := 2) K0.out rfl
  have c3 := cell_of (j := 3) K0.out rfl
  have c4 := cell_of (j := 4) K0.out rfl
  have c5 := cell_of (j := 5) K0.out rfl
  clear hW1 hb1 k0 k1
  go_wp2_with fail
  go_loopw [6] (fun i wr => ∃ k : Nat, k ≤ b.coms.length ∧ i = .int .i64 (k : Int) ∧ Hid (noneTo (fun i => (comN b.coms i).club == c) k) ∧ wr = W1) (fun i _ => b.coms.length - (intOf i).toNat)
  case atStart => exact ⟨0, Nat.zero_le _, rfl, Lib.hid (fun j hj => absurd hj (by omega)), rfl⟩
  case round =>
    obtain ⟨k, hk, rfl, HNO, rfl⟩ := hrel
    by_cases hlt : k < b.coms.length
    · have hk1 : (k : Int) < (b.coms.length : Int) := by omega
      have hk0 : (0 : Int) ≤ (k : Int) := by omega
      obtain ⟨g, off, qA, qc, rfl, hgl, hc0, hc1, hu⟩ := HI2.out.at_ HB1.out hlt
      have HUU := Lib.hid hu
      obtain ⟨y, hy⟩ : ∃ y, y = comN b.coms k := ⟨_, rfl⟩
      have HY := Lib.hid hy
      rw [← hy] at hc0 hc1 HUU
      obtain ⟨yc, hyc⟩ : ∃ z, z = y.club := ⟨_, rfl⟩
      have HYC := Lib.hid hyc
      rw [← hyc] at hc0
      obtain ⟨yl, hyl⟩ : ∃ z, z = y.checks.length := ⟨_, rfl⟩
      have HYL := Lib.hid hyl
      rw [← hyl] at hc1
      clear hy hyc hyl hgl hu
      by_cases he : yc = c
      · have d1 : (yc == c) = true := by simp [he]
        have HQ := Lib.hid (show comI b c = k from idxF_some hlt (by show ((comN b.coms k).club == c) = true; rw [← HY.out, ← HYC.out]; exact d1) HNO.out)
        have HXY := Lib.hid (show x = y by rw [HX.out]; unfold fstC; rw [HQ.out, if_pos (by omega), HY.out]; rfl)
        have HZT := Lib.hid (show z = true by rw [HZ.out, HQ.out]; exact decide_eq_true (by omega))
        clear he
        go_wp2_with fail
        refine nameG (p := fun W => bodyPost Tryz.prog Tryz.f37 _ Exit.ret _ W) fun W7 hW7 => ?_
        have hk7 : W7.heap[B1]? = some (.cells #[.int .i64 yc, .slice qA yl qc] 31 (0, 0)) := by
          have hx := (Blk_set (Blk_set K1.out (j := 0) (.int .i64 yc)) (j := 1) (.slice qA yl qc))
          rw [hW7.out, hx]; rfl
        have j0 := cell_of (j := 0) hk7 rfl
        have j1 := cell_of (j := 1) hk7 rfl
        refine bodyPost_ret (v := .tuple #[.agg #[.int .i64 yc, .slice qA yl qc], .bool true]) (by simp [results, Tryz.results37, go_sem, j0, j1]) rfl ?_
        have hu7 : IsU64 W7 M (.slice qA y.checks.length qc) y.checks := by
          rw [hW7.out]
          refine IsSl.keep (IsSl.below (IsSl.mono (M' := fun q => q < w.heap.size ∧ M q) HUU.out (fun q h1 h2 => ⟨h1, h2⟩) (by omega)) HB1.out) (fun p hp _ => ?_) |>.mono (fun q _ h => h.2) (by omega)
          have hne : p.block ≠ B1 := by have := hp.1; have := HB9.out; omega
          simp only [cell_setO hne]
        rw [HXY.out, HZT.out, HYC.out, HYL.out]
        refine ⟨_, _, rfl, hu7, ?_⟩
        rw [hW7.out]
        exact (HB1.out.setCell HB9.out _).setCell HB9.out _
      · have d1 : (yc == c) = false := by simp [he]
        have HN2 := Lib.hid (noneTo_succ HNO.out (show ((comN b.coms k).club == c) = false by rw [← HY.out, ← HYC.out]; exact d1))
        clear he
        go_wp2_with fail
        go_roundw
        case rel => exact ⟨k + 1, by omega, by go_num, HN2, by first | rfl | trivial⟩
        case measure => simp [intOf]; omega
    · have hk1 : ¬ (k : Int) < (b.coms.length : Int) := by omega
      obtain rfl : k = b.coms.length := by omega
      have HQ := Lib.hid (show comI b c = -1 from idxF_none HNO.out)
      have HXY := Lib.hid (show x = com0 by rw [HX.out]; unfold fstC; rw [HQ.out, if_neg (by omega)])
      have HZT := Lib.hid (show z = false by rw [HZ.out, HQ.out]; rfl)
      clear hlt hk
      go_wp2_with fail
      refine nameG (p := fun W => bodyPost Tryz.prog Tryz.f37 _ Exit.ret _ W) fun W7 hW7 => ?_
      have hk7 : W7.heap[B1]? = some (.cells #[.int .i64 0, .slice none 0 0] 31 (0, 0)) := by
        have hx := (Blk_set (Blk_set K1.out (j := 0) (.int .i64 0)) (j := 1) (.slice none 0 0))
        rw [hW7.out, hx]; rfl
      have j0 := cell_of (j := 0) hk7 rfl
      have j1 := cell_of (j := 1) hk7 rfl
      refine bodyPost_ret (v := .tuple #[.agg #[.int .i64 0, .slice none 0 0], .bool false]) (by simp [results, Tryz.results37, go_sem, j0, j1]) rfl ?_
      rw [HXY.out, HZT.out]
      refine ⟨none, 0, rfl, IsSl.nil, ?_⟩
      rw [hW7.out]
      exact (HB1.out.setCell HB9.out _).setCell HB9.out _
set_option maxRecDepth 20000 in
set_option maxHeartbeats 4000000 in
theorem rpos_any (w : World) (M : Nat → Prop) (v : Value) (b : BeaD) (h : IsBea w M v b) (hs : b.clubs.length ≤ 1000) (c : Int) : Calls Tryz.prog 70 #[v, .int .i64 c] w (RetE (idxF (fun i => nthI b.clubs i == c) b.clubs.length) w) := by
  obtain ⟨cA, cc, kA, kc, rA, rc, oA, oc, rfl, i1, i2, i3, i4⟩ := h.parts
  have HI1 := Lib.hid i1
  have HI2 := Lib.hid i2
  have HI3 := Lib.hid i3
  have HI4 := Lib.hid i4
  have HBE := Lib.hid h
  have HS := Lib.hid hs
  clear h i1 i2 i3 i4 HS
  go_enter Tryz.func70, Tryz.ntmps70
  go_upto_region 1 with fail
  refine nameC fun W1 hW1 => ?_
  have hb1 : Below w.heap.size w W1 := by rw [hW1.out]; exact (Below.refl _ _).alloc (Nat.le_refl _) _
  have k0 : W1.heap[w.heap.size]? = some (.cells #[.slice cA b.clubs.length cc, .int .i64 b.thr, .int .u64 (b.rng : Int), .slice kA b.coms.length kc, .slice rA b.revs.length rc, .slice oA b.opns.length oc] 28 (0, 0)) := by rw [hW1.out]; exact heap_alloc_new _ _
  have HB1 := Lib.hid hb1
  have c0 := cell_of (j := 0) k0 rfl
  have c1 := cell_of (j := 1) k0 rfl
  have c2 := cell_of (j := 2) k0 rfl
  have c3 := cell_of (j := 3) k0 rfl
  have c4 := cell_of (j := 4) k0 rfl
  have c5 := cell_of (j := 5) k0 rfl
  clear hW1 hb1 k0
  go_wp2_with fail
  go_loopw [5] (fun i wr => ∃ k : Nat, k ≤ b.clubs.length ∧ i = .int .i64 (k : Int) ∧ Hid (noneTo (fun i => nthI b.clubs i == c) k) ∧ wr = W1) (fun i _ => b.clubs.length - (intOf i).toNat)
  case atStart => exact ⟨0, Nat.zero_le _, rfl, Lib.hid (fun j hj => absurd hj (by omega)), rfl⟩
  case round =>
    obtain ⟨k, hk, rfl, HNO, rfl⟩ := hrel
    by_cases hlt : k < b.clubs.length
    · have hk1 : (k : Int) < (b.clubs.length : Int) := by omega
      have hk0 : (0 : Int) ≤ (k : Int) := by omega
      obtain ⟨g, off, rfl, hgl, hc0⟩ := HI1.out.at_ HB1.out hlt
      obtain ⟨y, hy⟩ : ∃ y, y = nthI b.clubs k := ⟨_, rfl⟩
      have HY := Lib.hid hy
      rw [← hy] at hc0
      clear hy hgl
      by_cases he : y = c
      · have d1 : (y == c) = true := by simp [he]
        have HQ := Lib.hid (show idxF (fun i => nthI b.clubs i == c) b.clubs.length = k from idxF_some hlt (by show (nthI b.clubs k == c) = true; rw [← HY.out]; exact d1) HNO.out)
        clear he
        go_wp2_with fail
        go_ret
        exact ⟨ret_int HQ.out.symm, HB1.out⟩
      · have d1 : (y == c) = false := by simp [he]
        have HN2 := Lib.hid (noneTo_succ HNO.out (show (nthI b.clubs k == c) = false by rw [← HY.out]; exact d1))
        clear he
        go_wp2_with fail
        go_roundw
        case rel => exact ⟨k + 1, by omega, by go_num, HN2, by first | rfl | trivial⟩
        case measure => simp [intOf]; omega
    · have hk1 : ¬ (k : Int) < (b.clubs.length : Int) := by omega
      obtain rfl : k = b.clubs.length := by omega
      have HQ := Lib.hid (show idxF (fun i => nthI b.clubs i == c) b.clubs.length = -1 from idxF_none HNO.out)
      clear hlt hk
      go_wp2_with fail
      go_ret
      exact ⟨ret_int HQ.out.symm, HB1.out⟩
def complR (b : BeaD) : Bool := (List.range b.clubs.length).all fun i => decide (0 ≤ comI b (nthI b.clubs i))
set_option maxRecDepth 100000 in
set_option maxHeartbeats 8000000 in
theorem rcomplete_any (w : World) (M : Nat → Prop) (v : Value) (b : BeaD) (h : IsBea w M v b) (hs : SmallB b) : Calls Tryz.prog 32 #[v] w (RetT (complR b) w) := by
  obtain ⟨cA, cc, kA, kc, rA, rc, oA, oc, rfl, i1, i2, i3, i4⟩ := h.parts
  have HI1 := Lib.hid i1
  have HI2 := Lib.hid i2
  have HI3 := Lib.hid i3
  have HI4 := Lib.hid i4
  have HBE := Lib.hid h
  have HS := Lib.hid hs
  obtain ⟨n, hn⟩ : ∃ n, n = b.clubs.length := ⟨_, rfl⟩
  have HN := Lib.hid hn
  have hn9 : n ≤ 1000 := by rw [hn]; exact hs.cl
  clear h hs i1 i2 i3 i4 hn
  go_enter Tryz.func32, Tryz.ntmps32
  go_upto_region 1 with fail
  refine nameC fun W1 hW1 => ?_
  have hb1 : Below w.heap.size w W1 := by rw [hW1.out]; exact (Below.refl _ _).alloc (Nat.le_refl _) _
  have k0 : W1.heap[w.heap.size]? = some (.cells #[.slice cA b.clubs.length cc, .int .i64 b.thr, .int .u64 (b.rng : Int), .slice kA b.coms.length kc, .slice rA b.revs.length rc, .slice oA b.opns.length oc] 28 (0, 0)) := by rw [hW1.out]; exact heap_alloc_new _ _
  have HB1 := Lib.hid hb1
  have K0 := Lib.hid k0
  clear hW1 hb1 k0
  rw [← HN.out] at K0
  go_wp2_with fail
  go_loopw [3] (fun i wr => ∃ k : Nat, k ≤ n ∧ i = .int .i64 (k : Int) ∧ Hid (∀ j, j < k → decide (0 ≤ comI b (nthI b.clubs j)) = true) ∧ Hid (Below W1.heap.size W1 wr)) (fun i _ => n - (intOf i).toNat)
  case atStart => exact ⟨0, Nat.zero_le _, rfl, Lib.hid (fun j hj => absurd hj (by omega)), Lib.hid (Below.refl _ _)⟩
  case round =>
    obtain ⟨k, hk, rfl, HA, HB⟩ := hrel
    have kk := (HB.out.block _ (lt_heap K0.out)).trans K0.out
    have HKK := Lib.hid kk
    have c0 := cell_of (j := 0) kk rfl
    have c1 := cell_of (j := 1) kk rfl
    have c2 := cell_of (j := 2) kk rfl
    have c3 := cell_of (j := 3) kk rfl
    have c4 := cell_of (j := 4) kk rfl
    have c5 := cell_of (j := 5) kk rfl
    clear kk
    by_cases hlt : k < n
    · have hk1 : (k : Int) < (n : Int) := by omega
      have hk0 : (0 : Int) ≤ (k : Int) := by omega
      have HBw := Lib.hid (HB1.out.trans (HB.out.mono HB1.out.size))
      obtain ⟨g, off, rfl, hgl, hc0⟩ := HI1.out.at_ HBw.out (show k < b.clubs.length by rw [← HN.out]; exact hlt)
      obtain ⟨y, hy⟩ : ∃ y, y = nthI b.clubs k := ⟨_, rfl⟩
      have HY := Lib.hid hy
      rw [← hy] at hc0
      have D1 := Lib.hid (fun (W : World) (hW : Below wr.heap.size wr W) => rcommit_any W M _ b (HBE.out.below (HBw.out.trans (hW.mono HBw.out.size))) HS.out.co y)
      obtain ⟨z, hz⟩ : ∃ z, z = decide (0 ≤ comI b y) := ⟨_, rfl⟩
      have HZ := Lib.hid hz
      obtain ⟨x, hx⟩ : ∃ x, x = fstC b y := ⟨_, rfl⟩
      rw [← hz, ← hx, ← HN.out] at D1
      have HC := Lib.hid (show ∀ W', Below wr.heap.size wr W' → (W'.cell? ⟨w.heap.size, 0, none⟩ = some (.slice (some ⟨g, off, none⟩) n cc) ∧ W'.cell? ⟨w.heap.size, 1, none⟩ = some (.int .i64 b.thr) ∧ W'.cell? ⟨w.heap.size, 2, none⟩ = some (.int .u64 (b.rng : Int)) ∧ W'.cell? ⟨w.heap.size, 3, none⟩ = some (.slice kA b.coms.length kc) ∧ W'.cell? ⟨w.heap.size, 4, none⟩ = some (.slice rA b.revs.length rc) ∧ W'.cell? ⟨w.heap.size, 5, none⟩ = some (.slice oA b.opns.length oc) ∧ W'.cell? ⟨g, off + k, none⟩ = some (.int .i64 y)) from fun W' h => by
        have e0 := (h.block _ (lt_heap HKK.out)).trans HKK.out
        exact ⟨cell_of e0 rfl, cell_of e0 rfl, cell_of e0 rfl, cell_of e0 rfl, cell_of e0 rfl, cell_of e0 rfl, (h.cell (p := ⟨g, off + k, none⟩) (lt_of_cell hc0)).trans hc0⟩)
      go_upto_region 4 with fail
      clear hy hgl hz hx hc0 c0 c1 c2 c3 c4 c5
      go_cut [5] (fun s5 W => s5 = .bool z ∧ Hid (Below wr.heap.size wr W))
      case first =>
        refine anyL_begin (z := 11) (S := fun W9 => Below wr.heap.size wr W9) (by kernel_rfl) (Below.drew (Below.refl _ _)) (fun hHeld => ?_)
        refine AnyL.takeD (i := 0) (d := some 14) (v := ?_) rfl rfl (by kernel_rfl) (by kernel_rfl) (fun _ _ _ h => h) (by kernel_rfl) (by kernel_rfl) (by kernel_rfl) (Or.inl ⟨by rfl, ?_⟩) hHeld ?_
        rotate_left 1
        focus (intro w hSw; (try dsimp only at hSw); obtain ⟨c0, c1, c2, c3, c4, c5, ck⟩ := HC.out w hSw; go_simp; (try with_reducible rfl))
        (repeat (first | simp only [Act.put] | simp only [List.setIfInBounds_toArray] | simp only [List.set_cons_zero] | simp only [List.set_cons_succ]))
        refine AnyL.takeD (i := 1) (d := some 15) (v := ?_) rfl rfl (by kernel_rfl) (by kernel_rfl) (fun _ _ _ h => h) (by kernel_rfl) (by kernel_rfl) (by kernel_rfl) (Or.inl ⟨by rfl, ?_⟩) hHeld ?_
        rotate_left 1
        focus (intro w hSw; (try dsimp only at hSw); go_simp; (try with_reducible rfl))
        (repeat (first | simp only [Act.put] | simp only [List.setIfInBounds_toArray] | simp only [List.set_cons_zero] | simp only [List.set_cons_succ]))
        refine AnyL.takeD (i := 2) (d := some 16) (v := ?_) rfl rfl (by kernel_rfl) (by kernel_rfl) (fun _ _ _ h => h) (by kernel_rfl) (by kernel_rfl) (by kernel_rfl) (Or.inl ⟨by rfl, ?_⟩) hHeld ?_
        rotate_left 1
        focus (intro w hSw; (try dsimp only at hSw); obtain ⟨c0, c1, c2, c3, c4, c5, ck⟩ := HC.out w hSw; go_simp; (try with_reducible rfl))
        (repeat (first | simp only [Act.put] | simp only [List.setIfInBounds_toArray] | simp only [List.set_cons_zero] | simp only [List.set_cons_succ]))
        refine AnyL.takeD (i := 3) (d := some 17) (v := ?_) rfl rfl (by kernel_rfl) (by kernel_rfl) (fun _ _ _ h => h) (by kernel_rfl) (by kernel_rfl) (by kernel_rfl) (Or.inl ⟨by rfl, ?_⟩) hHeld ?_
        rotate_left 1
        focus (intro w hSw; (try dsimp only at hSw); go_simp; (try with_reducible rfl))
        (repeat (first | simp only [Act.put] | simp only [List.setIfInBounds_toArray] | simp only [List.set_cons_zero] | simp only [List.set_cons_succ]))
        refine AnyL.takeD (i := 4) (d := some 18) (v := ?_) rfl rfl (by kernel_rfl) (by kernel_rfl) (fun _ _ _ h => h) (by kernel_rfl) (by kernel_rfl) (by kernel_rfl) (Or.inl ⟨by rfl, ?_⟩) hHeld ?_
        rotate_left 1
        focus (intro w hSw; (try dsimp only at hSw); go_simp; (try with_reducible rfl))
        (repeat (first | simp only [Act.put] | simp only [List.setIfInBounds_toArray] | simp only [List.set_cons_zero] | simp only [List.set_cons_succ]))
        refine AnyL.takeD (i := 5) (d := some 19) (v := ?_) rfl rfl (by kernel_rfl) (by kernel_rfl) (fun _ _ _ h => h) (by kernel_rfl) (by kernel_rfl) (by kernel_rfl) (Or.inl ⟨by rfl, ?_⟩) hHeld ?_
        rotate_left 1
        focus (intro w hSw; (try dsimp only at hSw); obtain ⟨c0, c1, c2, c3, c4, c5, ck⟩ := HC.out w hSw; go_simp; (try with_reducible rfl))
        (repeat (first | simp only [Act.put] | simp only [List.setIfInBounds_toArray] | simp only [List.set_cons_zero] | simp only [List.set_cons_succ]))
        have HBa : Hid (Below wr.heap.size wr wr.drew) := Lib.hid (Below.drew (Below.refl _ _))
        refine AnyL.two (i := 6) (j := 10) (by kernel_rfl) rfl rfl (fun K hK => ?_) (fun K hK => ?_)
        · skip
          go_simp
          go_at_call 37
          refine ((D1.out _ HBa.out)).mono ?_
          rintro e w7 ⟨uA, uc, rfl, -, hb7⟩
          have HB7 := Lib.hid (HBa.out.trans (hb7.mono HBa.out.size))
          obtain ⟨gn, hgn⟩ : ∃ g, g = w7.heap.size := ⟨_, rfl⟩
          have HGN : Hid (wr.heap.size ≤ gn) := Lib.hid (by rw [hgn]; exact HB7.out.size)
          have HGE := Lib.hid hgn
          clear hb7 hgn
          refine hK.out _ _ (fun _ => HB7.out) (fun hHeld => ?_)
          replace hHeld := hHeld (by kernel_rfl)
          clear hK K
          (repeat (first | simp only [Act.put] | simp only [List.setIfInBounds_toArray] | simp only [List.set_cons_zero] | simp only [List.set_cons_succ]))
          refine AnyL.takeD (i := 7) (d := some 13) (v := ?_) rfl rfl (by kernel_rfl) (by kernel_rfl) (fun _ _ _ h => h) (by kernel_rfl) (by kernel_rfl) (by kernel_rfl) (Or.inl ⟨by rfl, ?_⟩) hHeld ?_
          rotate_left 1
          focus (intro w hSw; (try dsimp only at hSw); go_simp; (try with_reducible rfl))
          (repeat (first | simp only [Act.put] | simp only [List.setIfInBounds_toArray] | simp only [List.set_cons_zero] | simp only [List.set_cons_succ]))
          refine AnyL.takeD (i := 8) (d := some 21) (v := ?_) rfl rfl (by kernel_rfl) (by kernel_rfl) (fun _ _ _ h => h) (by kernel_rfl) (by kernel_rfl) (by kernel_rfl) (Or.inl ⟨by rfl, ?_⟩) hHeld ?_
          rotate_left 1
          focus (intro w hSw; (try dsimp only at hSw); go_simp; (try with_reducible rfl))
          (repeat (first | simp only [Act.put] | simp only [List.setIfInBounds_toArray] | simp only [List.set_cons_zero] | simp only [List.set_cons_succ]))
          refine AnyL.lateD (i := 9) (d := some 22) (v := ?_) rfl rfl (by kernel_rfl) (by kernel_rfl) (fun _ _ _ h => h) (by kernel_rfl) (by kernel_rfl) (Or.inl ⟨by rfl, ?_⟩) (fun _ => hHeld) ?_
          rotate_left 1
          focus (intro w hSw; (try dsimp only at hSw); go_simp; (try with_reducible rfl))
          (repeat (first | simp only [Act.put] | simp only [List.setIfInBounds_toArray] | simp only [List.set_cons_zero] | simp only [List.set_cons_succ]))
          refine AnyL.one (i := 10) (by kernel_rfl) rfl (fun K hK => ?_)
          go_simp
          refine nameG (w := w7.alloc (.cells #[.int .i64 0, .slice none 0 0] 31)) (p := fun W => K _ W) fun w8 hw8 => ?_
          have hb8w : Below w7.heap.size w7 w8 := by rw [hw8.out]; exact (Below.refl _ _).alloc (Nat.le_refl _) _
          have g8 : w8.heap[gn]? = some (.cells #[.int .i64 0, .slice none 0 0] 31 (0, 0)) := by rw [hw8.out, HGE.out]; exact heap_alloc_new _ _
          rw [← HGE.out]
          have HB8 := Lib.hid (HB7.out.trans (hb8w.mono HB7.out.size))
          have c0 := cell_of (j := 0) g8 rfl
          have c1 := cell_of (j := 1) g8 rfl
          have f0 : w8.frozen? ⟨gn, 0, none⟩ = false := by simp [World.frozen?, g8]
          have f1 : w8.frozen? ⟨gn, 1, none⟩ = false := by simp [World.frozen?, g8]
          clear hb8w g8 hw8 HB7
          refine hK.out _ _ (fun _ => HB8.out) (fun hHeld => ?_)
          replace hHeld := hHeld (by kernel_rfl)
          clear hK K
          (repeat (first | simp only [Act.put] | simp only [List.setIfInBounds_toArray] | simp only [List.set_cons_zero] | simp only [List.set_cons_succ]))
          refine AnyL.one (i := 11) (by kernel_rfl) rfl (fun K hK => ?_)
          go_simp
          refine hK.out _ _ (fun h => nomatch (show true = false from h)) (fun _ => ?_)
          clear hK K
          (try dsimp only)
          refine AnyL.one (i := 12) (by kernel_rfl) rfl (fun K hK => ?_)
          go_simp
          refine hK.out _ _ (fun h => nomatch (show true = false from h)) (fun _ => ?_)
          clear hK K
          (try dsimp only)
          refine AnyL.done (by kernel_rfl) ?_
          clear c0 c1 f0 f1
          go_wp2_with fail
          go_meet
          case rel => exact ⟨rfl, Lib.hid ((HB8.out.setCell HGN.out _).setCell HGN.out _)⟩
        · skip
          go_simp
          refine nameG (w := wr.drew.alloc (.cells #[.int .i64 0, .slice none 0 0] 31)) (p := fun W => K _ W) fun w7 hw7 => ?_
          obtain ⟨gn, hgn⟩ : ∃ g, g = wr.heap.size := ⟨_, rfl⟩
          have HGN : Hid (wr.heap.size ≤ gn) := Lib.hid (by rw [hgn]; exact Nat.le_refl _)
          have g7 : w7.heap[gn]? = some (.cells #[.int .i64 0, .slice none 0 0] 31 (0, 0)) := by rw [hw7.out, hgn]; exact heap_alloc_new _ _
          have HB7 : Hid (Below wr.heap.size wr w7) := Lib.hid (by rw [hw7.out]; exact HBa.out.alloc HBa.out.size _)
          rw [← hgn]
          have G7 := Lib.hid g7
          clear hgn g7 hw7
          refine hK.out _ _ (fun _ => HB7.out) (fun hHeld => ?_)
          replace hHeld := hHeld (by kernel_rfl)
          clear hK K
          (repeat (first | simp only [Act.put] | simp only [List.setIfInBounds_toArray] | simp only [List.set_cons_zero] | simp only [List.set_cons_succ]))
          refine AnyL.one (i := 6) (by kernel_rfl) rfl (fun K hK => ?_)
          go_simp
          go_at_call 37
          refine ((D1.out _ HB7.out)).mono ?_
          rintro e w8 ⟨uA, uc, rfl, -, hb8⟩
          have HB8 := Lib.hid (HB7.out.trans (hb8.mono HB7.out.size))
          have g8 := (hb8.block _ (lt_heap G7.out)).trans G7.out
          have c0 := cell_of (j := 0) g8 rfl
          have c1 := cell_of (j := 1) g8 rfl
          have f0 : w8.frozen? ⟨gn, 0, none⟩ = false := by simp [World.frozen?, g8]
          have f1 : w8.frozen? ⟨gn, 1, none⟩ = false := by simp [World.frozen?, g8]
          clear hb8 g8 HB7 G7
          refine hK.out _ _ (fun _ => HB8.out) (fun hHeld => ?_)
          replace hHeld := hHeld (by kernel_rfl)
          clear hK K
          (repeat (first | simp only [Act.put] | simp only [List.setIfInBounds_toArray] | simp only [List.set_cons_zero] | simp only [List.set_cons_succ]))
          refine AnyL.takeD (i := 7) (d := some 13) (v := ?_) rfl rfl (by kernel_rfl) (by kernel_rfl) (fun _ _ _ h => h) (by kernel_rfl) (by kernel_rfl) (by kernel_rfl) (Or.inl ⟨by rfl, ?_⟩) hHeld ?_
          rotate_left 1
          focus (intro w hSw; (try dsimp only at hSw); go_simp; (try with_reducible rfl))
          (repeat (first | simp only [Act.put] | simp only [List.setIfInBounds_toArray] | simp only [List.set_cons_zero] | simp only [List.set_cons_succ]))
          refine AnyL.takeD (i := 8) (d := some 21) (v := ?_) rfl rfl (by kernel_rfl) (by kernel_rfl) (fun _ _ _ h => h) (by kernel_rfl) (by kernel_rfl) (by kernel_rfl) (Or.inl ⟨by rfl, ?_⟩) hHeld ?_
          rotate_left 1
          focus (intro w hSw; (try dsimp only at hSw); go_simp; (try with_reducible rfl))
          (repeat (first | simp only [Act.put] | simp only [List.setIfInBounds_toArray] | simp only [List.set_cons_zero] | simp only [List.set_cons_succ]))
          refine AnyL.lateD (i := 9) (d := some 22) (v := ?_) rfl rfl (by kernel_rfl) (by kernel_rfl) (fun _ _ _ h => h) (by kernel_rfl) (by kernel_rfl) (Or.inl ⟨by rfl, ?_⟩) (fun _ => hHeld) ?_
          rotate_left 1
          focus (intro w hSw; (try dsimp only at hSw); go_simp; (try with_reducible rfl))
          (repeat (first | simp only [Act.put] | simp only [List.setIfInBounds_toArray] | simp only [List.set_cons_zero] | simp only [List.set_cons_succ]))
          refine AnyL.one (i := 11) (by kernel_rfl) rfl (fun K hK => ?_)
          go_simp
          refine hK.out _ _ (fun h => nomatch (show true = false from h)) (fun _ => ?_)
          clear hK K
          (try dsimp only)
          refine AnyL.one (i := 12) (by kernel_rfl) rfl (fun K hK => ?_)
          go_simp
          refine hK.out _ _ (fun h => nomatch (show true = false from h)) (fun _ => ?_)
          clear hK K
          (try dsimp only)
          refine AnyL.done (by kernel_rfl) ?_
          clear c0 c1 f0 f1
          go_wp2_with fail
          go_meet
          case rel => exact ⟨rfl, Lib.hid ((HB8.out.setCell HGN.out _).setCell HGN.out _)⟩
      case rest =>
        obtain ⟨rfl, HBc⟩ := hcut
        have HB2 := Lib.hid (HB.out.trans (HBc.out.mono HB.out.size))
        cases z with
        | true =>
          have HA2 := Lib.hid (show ∀ j, j < k + 1 → decide (0 ≤ comI b (nthI b.clubs j)) = true from fun j hj => by
            rcases Nat.lt_or_ge j k with h1 | h1
            · exact HA.out j h1
            · rw [show j = k by omega, ← HY.out]; exact HZ.out.symm)
          go_wp2_with fail
          go_roundw
          case rel => exact ⟨k + 1, by omega, by go_num, HA2, HB2⟩
          case measure => simp [intOf]; omega
        | false =>
          have HQ := Lib.hid (show complR b = false from List.all_eq_false.2 ⟨k, List.mem_range.2 (by rw [← HN.out]; exact hlt), by rw [← HY.out, ← HZ.out]; simp⟩)
          go_wp2_with fail
          go_ret
          exact ⟨ret_bool HQ.out.symm, HB1.out.trans (HB2.out.mono HB1.out.size)⟩
    · have hk1 : ¬ (k : Int) < (n : Int) := by omega
      have HQ := Lib.hid (show complR b = true from List.all_eq_true.2 fun i hi => HA.out i (by have := List.mem_range.1 hi; have := HN.out; omega))
      clear hlt
      go_wp2_with fail
      go_ret
      exact ⟨ret_bool HQ.out.symm, HB1.out.trans (HB.out.mono HB1.out.size)⟩
end Go.Proofs.YtgaanndidcdbpaaGreat
