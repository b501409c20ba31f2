/- The reference's Missing and Number. -/
import Derived.Test.YtgaanndidcdbpaaGreatU6
import Derived.Test.YtgaanndidcdbpaaGreatU8
import Derived.BigQuiet
namespace Go.Proofs.YtgaanndidcdbpaaGreat
open Go.RowKit Go.Shelf

set_option maxRecDepth 100000 in
set_option maxHeartbeats 8000000 in
theorem rmissing_any (w : World) (M : Nat → Prop) (v : Value) (b : BeaD) (h : IsBea w M v b) (hs : SmallB b) : Calls Tryz.prog 19 #[v] w (MissE w (missD b)) := by
  obtain ⟨cA, cc, kA, kc, rA, rc, oA, oc, rfl, i1, i2, i3, i4⟩ := h.parts
  have HI1 := Lib.hid i1
  have HI2 := Lib.hid i2
  have HI3 := Lib.hid i3
  have HI4 := Lib.hid i4
  have HBE := Lib.hid h
  have HS := Lib.hid hs
  obtain ⟨R, hR⟩ : ∃ R, R = missD b := ⟨_, rfl⟩
  have HR := Lib.hid hR
  rw [← hR]
  obtain ⟨ck, hck⟩ : ∃ z, z = chkD b := ⟨_, rfl⟩
  have HCK := Lib.hid hck
  have HC4 := Lib.hid (show ck = if G4 b then 0 else 240 by rw [hck]; exact chk_ref b)
  have hcl : b.clubs.length ≤ 1000 := hs.cl
  clear h hs i1 i2 i3 i4 hR hck
  go_enter Tryz.func19, Tryz.ntmps19
  go_upto_region 1 with fail
  refine nameC fun W1 hW1 => ?_
  have hb1 : Below w.heap.size w W1 := by rw [hW1.out]; exact (Below.refl _ _).alloc (Nat.le_refl _) _
  have k0 : W1.heap[w.heap.size]? = some (.cells #[.slice cA b.clubs.length cc, .int .i64 b.thr, .int .u64 (b.rng : Int), .slice kA b.coms.length kc, .slice rA b.revs.length rc, .slice oA b.opns.length oc] 28 (0, 0)) := by rw [hW1.out]; exact heap_alloc_new _ _
  have HB1 := Lib.hid hb1
  have K0 := Lib.hid k0
  clear hW1 hb1 k0
  have c0 := cell_of (j := 0) K0.out rfl
  have c1 := cell_of (j := 1) K0.out rfl
  have c2 := cell_of (j := 2) K0.out rfl
  have c3 := cell_of (j := 3) K0.out rfl
  have c4 := cell_of (j := 4) K0.out rfl
  have c5 := cell_of (j := 5) K0.out rfl
  go_wp2_with fail
  refine (rcheck_any W1 M _ b (HBE.out.below HB1.out) HS.out).mono ?_
  rintro e W2 ⟨rfl, hb⟩
  rw [← HCK.out]
  have HB2 := Lib.hid (HB1.out.trans (hb.mono HB1.out.size))
  have K2 := Lib.hid ((hb.block _ (lt_heap K0.out)).trans K0.out)
  clear hb HB1 K0 c0 c1 c2 c3 c4 c5
  have c0 := cell_of (j := 0) K2.out rfl
  have c1 := cell_of (j := 1) K2.out rfl
  have c2 := cell_of (j := 2) K2.out rfl
  have c3 := cell_of (j := 3) K2.out rfl
  have c4 := cell_of (j := 4) K2.out rfl
  have c5 := cell_of (j := 5) K2.out rfl
  by_cases t0 : ck = 0
  case neg =>
    have b0 : (ck != 0) = true := by rw [bne_iff_ne]; exact t0
    have HQ := Lib.hid (show R = ([], 240) by
      have e : ck = 240 := by have := HC4.out; split at this; exact absurd this t0; exact this
      rw [HR.out]; unfold missD; rw [← HCK.out, if_neg t0, e])
    clear t0
    go_wp2_with fail
    go_ret2
    exact ⟨.slice none 0 0, by rw [HQ.out]; rfl, by rw [HQ.out]; exact IsSl.nil, HB2.out⟩
  have b0 : (ck != 0) = false := by rw [bne_eq_false_iff_eq]; exact t0
  have HQ := Lib.hid (show R = (missL b b.clubs.length, 0) by rw [HR.out]; unfold missD; rw [← HCK.out, if_pos t0])
  clear t0
  go_upto_region 4 with fail
  refine nameC fun W3 hW3 => ?_
  have hb3 : Below W2.heap.size W2 W3 := by rw [hW3.out]; exact (Below.refl _ _).alloc (Nat.le_refl _) _
  have hE : W3.heap[W2.heap.size]? = some (.cells #[] 3 (0, 0)) := by rw [hW3.out, heap_alloc_if, if_pos rfl]
  have HE : Hid (W3.ownsRow W2.heap.size 3 1 (.slice (some ⟨W2.heap.size, 0, none⟩) 0 0) 0 []) := own_empty hE (Nat.le_refl _)
  have HB3 := Lib.hid hb3
  have hgx : w.heap.size < W2.heap.size := lt_heap K2.out
  clear hE hW3 hb3 c0 c1 c2 c3 c4 c5
  go_wp2_with fail
  go_loopw [4, 5] (fun s4 s5 wr => ∃ (k : Nat) (A : Option Addr) (d : Nat), k ≤ b.clubs.length ∧ s5 = .int .i64 (k : Int) ∧ s4 = .slice A (missL b k).length d ∧ Hid (wr.ownsRow W2.heap.size 3 1 (.slice A (missL b k).length d) (missL b k).length ((missL b k).map i64v)) ∧ Hid (Below W2.heap.size W2 wr)) (fun _ s5 _ => b.clubs.length - (intOf s5).toNat)
  case atStart => exact ⟨0, some ⟨W2.heap.size, 0, none⟩, 0, Nat.zero_le _, rfl, rfl, HE, HB3⟩
  case round =>
    clear HE HB3
    obtain ⟨k, A, d, hk, rfl, rfl, HO, HB⟩ := hrel
    have HBw := Lib.hid (HB2.out.trans (HB.out.mono HB2.out.size))
    have HKK := Lib.hid ((HB.out.block _ (lt_heap K2.out)).trans K2.out)
    have c0 := cell_of (j := 0) HKK.out rfl
    have c1 := cell_of (j := 1) HKK.out rfl
    have c2 := cell_of (j := 2) HKK.out rfl
    have c3 := cell_of (j := 3) HKK.out rfl
    have c4 := cell_of (j := 4) HKK.out rfl
    have c5 := cell_of (j := 5) HKK.out rfl
    by_cases hlt : k < b.clubs.length
    · have hszr := HB.out.size
      have hk1 : (k : Int) < (b.clubs.length : Int) := by omega
      have hk0 : (0 : Int) ≤ (k : Int) := by omega
      obtain ⟨g, off, rfl, hgl, hc0⟩ := HI1.out.at_ HBw.out hlt
      obtain ⟨y, hy⟩ : ∃ y, y = nthI b.clubs k := ⟨_, rfl⟩
      have HY := Lib.hid hy
      rw [← hy] at hc0
      have D1 := Lib.hid (fun (W : World) (hW : Below wr.heap.size wr W) => Lib.hid (rnumber_any W M _ b (HBE.out.below (HBw.out.trans (hW.mono HBw.out.size))) HS.out y))
      obtain ⟨z, hz⟩ : ∃ z, z = numberD b y := ⟨_, rfl⟩
      have HZ := Lib.hid hz
      rw [← hz] at D1
      have HC := Lib.hid (show ∀ W', Below wr.heap.size wr W' → (W'.cell? ⟨w.heap.size, 0, none⟩ = some (.slice (some ⟨g, off, none⟩) b.clubs.length cc) ∧ W'.cell? ⟨w.heap.size, 1, none⟩ = some (.int .i64 b.thr) ∧ W'.cell? ⟨w.heap.size, 2, none⟩ = some (.int .u64 (b.rng : Int)) ∧ W'.cell? ⟨w.heap.size, 3, none⟩ = some (.slice kA b.coms.length kc) ∧ W'.cell? ⟨w.heap.size, 4, none⟩ = some (.slice rA b.revs.length rc) ∧ W'.cell? ⟨w.heap.size, 5, none⟩ = some (.slice oA b.opns.length oc) ∧ W'.cell? ⟨g, off + k, none⟩ = some (.int .i64 y)) from fun W' h => by
        have e0 := (h.block _ (lt_heap HKK.out)).trans HKK.out
        exact ⟨cell_of e0 rfl, cell_of e0 rfl, cell_of e0 rfl, cell_of e0 rfl, cell_of e0 rfl, cell_of e0 rfl, (h.cell (p := ⟨g, off + k, none⟩) (lt_of_cell hc0)).trans hc0⟩)
      go_upto_region 7 with fail
      clear hy hgl hz hc0 c0 c1 c2 c3 c4 c5
      go_cut [6, 7] (fun s6 s7 W => s6 = .int .u64 (z.1 : Int) ∧ s7 = .bool z.2 ∧ Hid (Below wr.heap.size wr W))
      case first =>
        refine anyL_begin (z := 6) (S := fun W9 => Below wr.heap.size wr W9) (by kernel_rfl) (Below.drew (Below.refl _ _)) (fun hHeld => ?_)
        refine AnyL.takeD (i := 0) (d := some 20) (v := ?_) rfl rfl (by kernel_rfl) (by kernel_rfl) (fun _ _ _ h => h) (by kernel_rfl) (by kernel_rfl) (by kernel_rfl) (Or.inl ⟨by rfl, ?_⟩) hHeld ?_
        rotate_left 1
        focus (intro w hSw; (try dsimp only at hSw); obtain ⟨c0, c1, c2, c3, c4, c5, ck⟩ := HC.out w hSw; go_simp; (try with_reducible rfl))
        (repeat (first | simp only [Act.put] | simp only [List.setIfInBounds_toArray] | simp only [List.set_cons_zero] | simp only [List.set_cons_succ]))
        refine AnyL.takeD (i := 1) (d := some 21) (v := ?_) rfl rfl (by kernel_rfl) (by kernel_rfl) (fun _ _ _ h => h) (by kernel_rfl) (by kernel_rfl) (by kernel_rfl) (Or.inl ⟨by rfl, ?_⟩) hHeld ?_
        rotate_left 1
        focus (intro w hSw; (try dsimp only at hSw); go_simp; (try with_reducible rfl))
        (repeat (first | simp only [Act.put] | simp only [List.setIfInBounds_toArray] | simp only [List.set_cons_zero] | simp only [List.set_cons_succ]))
        refine AnyL.takeD (i := 2) (d := some 22) (v := ?_) rfl rfl (by kernel_rfl) (by kernel_rfl) (fun _ _ _ h => h) (by kernel_rfl) (by kernel_rfl) (by kernel_rfl) (Or.inl ⟨by rfl, ?_⟩) hHeld ?_
        rotate_left 1
        focus (intro w hSw; (try dsimp only at hSw); obtain ⟨c0, c1, c2, c3, c4, c5, ck⟩ := HC.out w hSw; go_simp; (try with_reducible rfl))
        (repeat (first | simp only [Act.put] | simp only [List.setIfInBounds_toArray] | simp only [List.set_cons_zero] | simp only [List.set_cons_succ]))
        refine AnyL.takeD (i := 3) (d := some 23) (v := ?_) rfl rfl (by kernel_rfl) (by kernel_rfl) (fun _ _ _ h => h) (by kernel_rfl) (by kernel_rfl) (by kernel_rfl) (Or.inl ⟨by rfl, ?_⟩) hHeld ?_
        rotate_left 1
        focus (intro w hSw; (try dsimp only at hSw); go_simp; (try with_reducible rfl))
        (repeat (first | simp only [Act.put] | simp only [List.setIfInBounds_toArray] | simp only [List.set_cons_zero] | simp only [List.set_cons_succ]))
        refine AnyL.takeD (i := 4) (d := some 24) (v := ?_) rfl rfl (by kernel_rfl) (by kernel_rfl) (fun _ _ _ h => h) (by kernel_rfl) (by kernel_rfl) (by kernel_rfl) (Or.inl ⟨by rfl, ?_⟩) hHeld ?_
        rotate_left 1
        focus (intro w hSw; (try dsimp only at hSw); go_simp; (try with_reducible rfl))
        (repeat (first | simp only [Act.put] | simp only [List.setIfInBounds_toArray] | simp only [List.set_cons_zero] | simp only [List.set_cons_succ]))
        refine AnyL.takeD (i := 5) (d := some 25) (v := ?_) rfl rfl (by kernel_rfl) (by kernel_rfl) (fun _ _ _ h => h) (by kernel_rfl) (by kernel_rfl) (by kernel_rfl) (Or.inl ⟨by rfl, ?_⟩) hHeld ?_
        rotate_left 1
        focus (intro w hSw; (try dsimp only at hSw); obtain ⟨c0, c1, c2, c3, c4, c5, ck⟩ := HC.out w hSw; go_simp; (try with_reducible rfl))
        (repeat (first | simp only [Act.put] | simp only [List.setIfInBounds_toArray] | simp only [List.set_cons_zero] | simp only [List.set_cons_succ]))
        have HBa : Hid (Below wr.heap.size wr wr.drew) := Lib.hid (Below.drew (Below.refl _ _))
        refine AnyL.one (i := 6) (by kernel_rfl) rfl (fun K hK => ?_)
        go_simp
        go_at_call 47
        refine ((D1.out _ HBa.out).out).mono ?_
        rintro e w7 ⟨rfl, hb7⟩
        have HB7 := Lib.hid (HBa.out.trans (hb7.mono HBa.out.size))
        clear hb7
        refine hK.out _ _ (fun h => nomatch (show true = false from h)) (fun _ => ?_)
        clear hK K
        (repeat (first | simp only [Act.put] | simp only [List.setIfInBounds_toArray] | simp only [List.set_cons_zero] | simp only [List.set_cons_succ]))
        refine AnyL.lateD (i := 7) (d := some 19) (v := ?_) rfl rfl (by kernel_rfl) (by kernel_rfl) (fun _ _ _ h => h) (by kernel_rfl) (by kernel_rfl) (Or.inl ⟨by rfl, ?_⟩) (fun h => nomatch (show true = false from h)) ?_
        rotate_left 1
        focus (intro w hSw; (try dsimp only at hSw); go_simp; (try with_reducible rfl))
        (repeat (first | simp only [Act.put] | simp only [List.setIfInBounds_toArray] | simp only [List.set_cons_zero] | simp only [List.set_cons_succ]))
        refine AnyL.lateD (i := 8) (d := some 27) (v := ?_) rfl rfl (by kernel_rfl) (by kernel_rfl) (fun _ _ _ h => h) (by kernel_rfl) (by kernel_rfl) (Or.inl ⟨by rfl, ?_⟩) (fun h => nomatch (show true = false from h)) ?_
        rotate_left 1
        focus (intro w hSw; (try dsimp only at hSw); go_simp; (try with_reducible rfl))
        (repeat (first | simp only [Act.put] | simp only [List.setIfInBounds_toArray] | simp only [List.set_cons_zero] | simp only [List.set_cons_succ]))
        refine AnyL.lateD (i := 9) (d := some 28) (v := ?_) rfl rfl (by kernel_rfl) (by kernel_rfl) (fun _ _ _ h => h) (by kernel_rfl) (by kernel_rfl) (Or.inl ⟨by rfl, ?_⟩) (fun h => nomatch (show true = false from h)) ?_
        rotate_left 1
        focus (intro w hSw; (try dsimp only at hSw); go_simp; (try with_reducible rfl))
        (repeat (first | simp only [Act.put] | simp only [List.setIfInBounds_toArray] | simp only [List.set_cons_zero] | simp only [List.set_cons_succ]))
        refine AnyL.lateD (i := 10) (d := some 6) (v := ?_) rfl rfl (by kernel_rfl) (by kernel_rfl) (fun _ _ _ h => h) (by kernel_rfl) (by kernel_rfl) (Or.inl ⟨by rfl, ?_⟩) (fun h => nomatch (show true = false from h)) ?_
        rotate_left 1
        focus (intro w hSw; (try dsimp only at hSw); go_simp; (try with_reducible rfl))
        (repeat (first | simp only [Act.put] | simp only [List.setIfInBounds_toArray] | simp only [List.set_cons_zero] | simp only [List.set_cons_succ]))
        refine AnyL.one (i := 11) (by kernel_rfl) rfl (fun K hK => ?_)
        go_simp
        refine hK.out _ _ (fun h => nomatch (show true = false from h)) (fun _ => ?_)
        clear hK K
        (repeat (first | simp only [Act.put] | simp only [List.setIfInBounds_toArray] | simp only [List.set_cons_zero] | simp only [List.set_cons_succ]))
        refine AnyL.done (by kernel_rfl) ?_
        go_wp2_with fail
        go_meet
        case rel => exact ⟨rfl, rfl, HB7⟩
      case rest =>
        obtain ⟨rfl, rfl, HBc⟩ := hcut
        have HB4 := Lib.hid (HB.out.trans (HBc.out.mono HB.out.size))
        have HO4 := Lib.hid (own_below HO.out HBc.out (Nat.le_refl _))
        obtain ⟨c0, c1, c2, c3, c4, c5, ck0⟩ := HC.out wc HBc.out
        obtain ⟨z1, z2⟩ := z
        have hsz4 := HB4.out.size
        clear HC D1 HBc
        cases z2 with
        | true =>
          have HN : Hid (missL b (k + 1) = missL b k) := Lib.hid (missL_no hlt (by rw [← HY.out, ← HZ.out]))
          go_wp2_with fail
          go_roundw
          case rel => exact ⟨k + 1, A, d, by omega, by go_num, by rw [HN.out], Lib.hid (by rw [HN.out]; exact HO4.out), HB4⟩
          case measure => simp [intOf]; omega
        | false =>
          have HN : Hid (missL b (k + 1) = missL b k ++ [y]) := Lib.hid (by rw [HY.out]; exact missL_yes hlt (by rw [← HY.out, ← HZ.out]))
          have hml := missL_len b k
          go_wp2_with (at_builtin; apply Mk.of)
          unfold Mk
          refine wpList_ints rfl (.tmp 31) (.tmp 37) rfl W2.heap.size (missL b k) [y] rfl (HO4.out.alloc _) rfl (IsInts.one wc y) (by simp; omega) (by simp; omega) ?_
          intro A6 d6 w6 hw6
          have HW6 := Lib.hid (And.intro hw6.out.1 ((HB4.out.alloc HB4.out.size _).trans hw6.out.2.1))
          clear hw6
          go_wp2_with fail
          go_roundw
          case rel => exact ⟨k + 1, A6, d6, by omega, by go_num, by rw [HN.out, List.length_append]; rfl, Lib.hid (by rw [HN.out]; exact HW6.out.1), Lib.hid HW6.out.2⟩
          case measure => simp [intOf]; omega
    · obtain rfl : k = b.clubs.length := by omega
      have hk1 : ¬ (b.clubs.length : Int) < (b.clubs.length : Int) := by omega
      go_wp2_with fail
      go_ret2
      refine ⟨_, by rw [HQ.out]; rfl, ?_, HBw.out⟩
      rw [HQ.out]
      exact IsSl.mono (IsInts.ofOwn HO.out) (fun q _ (hq : W2.heap.size ≤ q) => by show w.heap.size ≤ q; omega) (by omega)
set_option maxRecDepth 100000 in
set_option maxHeartbeats 8000000 in
theorem rNumber_any (w : World) (M : Nat → Prop) (v : Value) (b : BeaD) (h : IsBea w M v b) (hs : SmallB b) : Calls Tryz.prog 21 #[v] w (NumE w (numD b)) := by
  obtain ⟨cA, cc, kA, kc, rA, rc, oA, oc, rfl, i1, i2, i3, i4⟩ := h.parts
  have HI1 := Lib.hid i1
  have HI2 := Lib.hid i2
  have HI3 := Lib.hid i3
  have HI4 := Lib.hid i4
  have HBE := Lib.hid h
  have HS := Lib.hid hs
  obtain ⟨R, hR⟩ : ∃ R, R = numD b := ⟨_, rfl⟩
  have HR := Lib.hid hR
  rw [← hR]
  obtain ⟨mz, hmz⟩ : ∃ z, z = missD b := ⟨_, rfl⟩
  have HMZ := Lib.hid hmz
  have hcl : b.clubs.length ≤ 1000 := hs.cl
  clear h hs i1 i2 i3 i4 hR hmz
  go_enter Tryz.func21, Tryz.ntmps21
  go_upto_region 1 with fail
  refine nameC fun W1 hW1 => ?_
  have hb1 : Below w.heap.size w W1 := by rw [hW1.out]; exact (Below.refl _ _).alloc (Nat.le_refl _) _
  have k0 : W1.heap[w.heap.size]? = some (.cells #[.slice cA b.clubs.length cc, .int .i64 b.thr, .int .u64 (b.rng : Int), .slice kA b.coms.length kc, .slice rA b.revs.length rc, .slice oA b.opns.length oc] 28 (0, 0)) := by rw [hW1.out]; exact heap_alloc_new _ _
  have HB1 := Lib.hid hb1
  have K0 := Lib.hid k0
  clear hW1 hb1 k0
  have c0 := cell_of (j := 0) K0.out rfl
  have c1 := cell_of (j := 1) K0.out rfl
  have c2 := cell_of (j := 2) K0.out rfl
  have c3 := cell_of (j := 3) K0.out rfl
  have c4 := cell_of (j := 4) K0.out rfl
  have c5 := cell_of (j := 5) K0.out rfl
  go_wp2_with fail
  refine (rmissing_any W1 M _ b (HBE.out.below HB1.out) HS.out).mono ?_
  rintro e W2 ⟨mv, rfl, hmv, hb⟩
  rw [← HMZ.out] at hmv ⊢
  obtain ⟨mA, mc, rfl, -⟩ := hmv
  have HB2 := Lib.hid (HB1.out.trans (hb.mono HB1.out.size))
  have K2 := Lib.hid ((hb.block _ (lt_heap K0.out)).trans K0.out)
  clear hb HB1 K0 c0 c1 c2 c3 c4 c5
  have c0 := cell_of (j := 0) K2.out rfl
  have c1 := cell_of (j := 1) K2.out rfl
  have c2 := cell_of (j := 2) K2.out rfl
  have c3 := cell_of (j := 3) K2.out rfl
  have c4 := cell_of (j := 4) K2.out rfl
  have c5 := cell_of (j := 5) K2.out rfl
  obtain ⟨ml, z⟩ := mz
  dsimp only at HMZ ⊢
  by_cases hok : z = 0
  case neg =>
    have b0 : (z != 0) = true := by rw [bne_iff_ne]; exact hok
    have HQ := Lib.hid (show R = (0, z) by rw [HR.out]; unfold numD; rw [← HMZ.out]; dsimp only; rw [if_pos hok])
    clear hok
    go_wp2_with fail
    go_ret2
    rw [HQ.out]
    exact ⟨rfl, HB2.out⟩
  subst hok
  have HNO : Hid (NewOk b.clubs b.thr b.rng) := Lib.hid (by
    refine chk_new (Classical.byContradiction fun hh => ?_)
    have := HMZ.out
    unfold missD at this
    rw [if_neg hh] at this
    exact hh (congrArg Prod.snd this).symm)
  by_cases hm0 : 0 < ml.length
  case pos =>
    have hm1 : (0 : Int) < (ml.length : Int) := by omega
    have HQ := Lib.hid (show R = (0, 242) by rw [HR.out]; unfold numD; rw [← HMZ.out]; dsimp only; rw [if_neg (by simp), if_pos hm0])
    clear hm0
    go_wp2_with fail
    go_ret2
    rw [HQ.out]
    exact ⟨rfl, HB2.out⟩
  have hm1 : ¬ (0 : Int) < (ml.length : Int) := by omega
  have HQ := Lib.hid (show R = (nsumTo b b.clubs.length, 0) by rw [HR.out]; unfold numD; rw [← HMZ.out]; dsimp only; rw [if_neg (by simp), if_neg hm0])
  clear hm0
  go_wp2_with fail
  clear hm1 c0 c1 c2 c3 c4 c5
  go_loopw [6, 7] (fun s6 s7 wr => ∃ k : Nat, k ≤ b.clubs.length ∧ s7 = .int .i64 (k : Int) ∧ s6 = .int .u64 (nsumTo b k : Int) ∧ Hid (Below W2.heap.size W2 wr)) (fun _ s7 _ => b.clubs.length - (intOf s7).toNat)
  case atStart => exact ⟨0, Nat.zero_le _, rfl, rfl, Lib.hid (Below.refl _ _)⟩
  case round =>
    obtain ⟨k, hk, rfl, rfl, HB⟩ := hrel
    have HBw := Lib.hid (HB2.out.trans (HB.out.mono HB2.out.size))
    have HKK := Lib.hid ((HB.out.block _ (lt_heap K2.out)).trans K2.out)
    have c0 := cell_of (j := 0) HKK.out rfl
    have c1 := cell_of (j := 1) HKK.out rfl
    have c2 := cell_of (j := 2) HKK.out rfl
    have c3 := cell_of (j := 3) HKK.out rfl
    have c4 := cell_of (j := 4) HKK.out rfl
    have c5 := cell_of (j := 5) HKK.out rfl
    by_cases hlt : k < b.clubs.length
    · have hszr := HB.out.size
      have hk1 : (k : Int) < (b.clubs.length : Int) := by omega
      have hk0 : (0 : Int) ≤ (k : Int) := by omega
      obtain ⟨g, off, rfl, hgl, hc0⟩ := HI1.out.at_ HBw.out hlt
      obtain ⟨y, hy⟩ : ∃ y, y = nthI b.clubs k := ⟨_, rfl⟩
      have HY := Lib.hid hy
      rw [← hy] at hc0
      have D1 := Lib.hid (fun (W : World) (hW : Below wr.heap.size wr W) => Lib.hid (rnumber_any W M _ b (HBE.out.below (HBw.out.trans (hW.mono HBw.out.size))) HS.out y))
      obtain ⟨z, hz⟩ : ∃ z, z = numberD b y := ⟨_, rfl⟩
      have HZ := Lib.hid hz
      rw [← hz] at D1
      have HC := Lib.hid (show ∀ W', Below wr.heap.size wr W' → (W'.cell? ⟨w.heap.size, 0, none⟩ = some (.slice (some ⟨g, off, none⟩) b.clubs.length cc) ∧ W'.cell? ⟨w.heap.size, 1, none⟩ = some (.int .i64 b.thr) ∧ W'.cell? ⟨w.heap.size, 2, none⟩ = some (.int .u64 (b.rng : Int)) ∧ W'.cell? ⟨w.heap.size, 3, none⟩ = some (.slice kA b.coms.length kc) ∧ W'.cell? ⟨w.heap.size, 4, none⟩ = some (.slice rA b.revs.length rc) ∧ W'.cell? ⟨w.heap.size, 5, none⟩ = some (.slice oA b.opns.length oc) ∧ W'.cell? ⟨g, off + k, none⟩ = some (.int .i64 y)) from fun W' h => by
        have e0 := (h.block _ (lt_heap HKK.out)).trans HKK.out
        exact ⟨cell_of e0 rfl, cell_of e0 rfl, cell_of e0 rfl, cell_of e0 rfl, cell_of e0 rfl, cell_of e0 rfl, (h.cell (p := ⟨g, off + k, none⟩) (lt_of_cell hc0)).trans hc0⟩)
      go_upto_region 10 with fail
      clear hy hgl hz hc0 c0 c1 c2 c3 c4 c5
      go_cut [8, 9] (fun s8 s9 W => s8 = .int .u64 (z.1 : Int) ∧ s9 = .bool z.2 ∧ Hid (Below wr.heap.size wr W))
      case first =>
        refine anyL_begin (z := 6) (S := fun W9 => Below wr.heap.size wr W9) (by kernel_rfl) (Below.drew (Below.refl _ _)) (fun hHeld => ?_)
        refine AnyL.takeD (i := 0) (d := some 29) (v := ?_) rfl rfl (by kernel_rfl) (by kernel_rfl) (fun _ _ _ h => h) (by kernel_rfl) (by kernel_rfl) (by kernel_rfl) (Or.inl ⟨by rfl, ?_⟩) hHeld ?_
        rotate_left 1
        focus (intro w hSw; (try dsimp only at hSw); obtain ⟨c0, c1, c2, c3, c4, c5, ck⟩ := HC.out w hSw; go_simp; (try with_reducible rfl))
        (repeat (first | simp only [Act.put] | simp only [List.setIfInBounds_toArray] | simp only [List.set_cons_zero] | simp only [List.set_cons_succ]))
        refine AnyL.takeD (i := 1) (d := some 30) (v := ?_) rfl rfl (by kernel_rfl) (by kernel_rfl) (fun _ _ _ h => h) (by kernel_rfl) (by kernel_rfl) (by kernel_rfl) (Or.inl ⟨by rfl, ?_⟩) hHeld ?_
        rotate_left 1
        focus (intro w hSw; (try dsimp only at hSw); go_simp; (try with_reducible rfl))
        (repeat (first | simp only [Act.put] | simp only [List.setIfInBounds_toArray] | simp only [List.set_cons_zero] | simp only [List.set_cons_succ]))
        refine AnyL.takeD (i := 2) (d := some 31) (v := ?_) rfl rfl (by kernel_rfl) (by kernel_rfl) (fun _ _ _ h => h) (by kernel_rfl) (by kernel_rfl) (by kernel_rfl) (Or.inl ⟨by rfl, ?_⟩) hHeld ?_
        rotate_left 1
        focus (intro w hSw; (try dsimp only at hSw); obtain ⟨c0, c1, c2, c3, c4, c5, ck⟩ := HC.out w hSw; go_simp; (try with_reducible rfl))
        (repeat (first | simp only [Act.put] | simp only [List.setIfInBounds_toArray] | simp only [List.set_cons_zero] | simp only [List.set_cons_succ]))
        refine AnyL.takeD (i := 3) (d := some 32) (v := ?_) rfl rfl (by kernel_rfl) (by kernel_rfl) (fun _ _ _ h => h) (by kernel_rfl) (by kernel_rfl) (by kernel_rfl) (Or.inl ⟨by rfl, ?_⟩) hHeld ?_
        rotate_left 1
        focus (intro w hSw; (try dsimp only at hSw); go_simp; (try with_reducible rfl))
        (repeat (first | simp only [Act.put] | simp only [List.setIfInBounds_toArray] | simp only [List.set_cons_zero] | simp only [List.set_cons_succ]))
        refine AnyL.takeD (i := 4) (d := some 33) (v := ?_) rfl rfl (by kernel_rfl) (by kernel_rfl) (fun _ _ _ h => h) (by kernel_rfl) (by kernel_rfl) (by kernel_rfl) (Or.inl ⟨by rfl, ?_⟩) hHeld ?_
        rotate_left 1
        focus (intro w hSw; (try dsimp only at hSw); go_simp; (try with_reducible rfl))
        (repeat (first | simp only [Act.put] | simp only [List.setIfInBounds_toArray] | simp only [List.set_cons_zero] | simp only [List.set_cons_succ]))
        refine AnyL.takeD (i := 5) (d := some 34) (v := ?_) rfl rfl (by kernel_rfl) (by kernel_rfl) (fun _ _ _ h => h) (by kernel_rfl) (by kernel_rfl) (by kernel_rfl) (Or.inl ⟨by rfl, ?_⟩) hHeld ?_
        rotate_left 1
        focus (intro w hSw; (try dsimp only at hSw); obtain ⟨c0, c1, c2, c3, c4, c5, ck⟩ := HC.out w hSw; go_simp; (try with_reducible rfl))
        (repeat (first | simp only [Act.put] | simp only [List.setIfInBounds_toArray] | simp only [List.set_cons_zero] | simp only [List.set_cons_succ]))
        have HBa : Hid (Below wr.heap.size wr wr.drew) := Lib.hid (Below.drew (Below.refl _ _))
        refine AnyL.one (i := 6) (by kernel_rfl) rfl (fun K hK => ?_)
        go_simp
        go_at_call 47
        refine ((D1.out _ HBa.out).out).mono ?_
        rintro e w7 ⟨rfl, hb7⟩
        have HB7 := Lib.hid (HBa.out.trans (hb7.mono HBa.out.size))
        clear hb7
        refine hK.out _ _ (fun h => nomatch (show true = false from h)) (fun _ => ?_)
        clear hK K
        (repeat (first | simp only [Act.put] | simp only [List.setIfInBounds_toArray] | simp only [List.set_cons_zero] | simp only [List.set_cons_succ]))
        refine AnyL.lateD (i := 7) (d := some 28) (v := ?_) rfl rfl (by kernel_rfl) (by kernel_rfl) (fun _ _ _ h => h) (by kernel_rfl) (by kernel_rfl) (Or.inl ⟨by rfl, ?_⟩) (fun h => nomatch (show true = false from h)) ?_
        rotate_left 1
        focus (intro w hSw; (try dsimp only at hSw); go_simp; (try with_reducible rfl))
        (repeat (first | simp only [Act.put] | simp only [List.setIfInBounds_toArray] | simp only [List.set_cons_zero] | simp only [List.set_cons_succ]))
        refine AnyL.lateD (i := 8) (d := some 36) (v := ?_) rfl rfl (by kernel_rfl) (by kernel_rfl) (fun _ _ _ h => h) (by kernel_rfl) (by kernel_rfl) (Or.inl ⟨by rfl, ?_⟩) (fun h => nomatch (show true = false from h)) ?_
        rotate_left 1
        focus (intro w hSw; (try dsimp only at hSw); go_simp; (try with_reducible rfl))
        (repeat (first | simp only [Act.put] | simp only [List.setIfInBounds_toArray] | simp only [List.set_cons_zero] | simp only [List.set_cons_succ]))
        refine AnyL.lateD (i := 9) (d := some 37) (v := ?_) rfl rfl (by kernel_rfl) (by kernel_rfl) (fun _ _ _ h => h) (by kernel_rfl) (by kernel_rfl) (Or.inl ⟨by rfl, ?_⟩) (fun h => nomatch (show true = false from h)) ?_
        rotate_left 1
        focus (intro w hSw; (try dsimp only at hSw); go_simp; (try with_reducible rfl))
        (repeat (first | simp only [Act.put] | simp only [List.setIfInBounds_toArray] | simp only [List.set_cons_zero] | simp only [List.set_cons_succ]))
        refine AnyL.lateD (i := 10) (d := some 8) (v := ?_) rfl rfl (by kernel_rfl) (by kernel_rfl) (fun _ _ _ h => h) (by kernel_rfl) (by kernel_rfl) (Or.inl ⟨by rfl, ?_⟩) (fun h => nomatch (show true = false from h)) ?_
        rotate_left 1
        focus (intro w hSw; (try dsimp only at hSw); go_simp; (try with_reducible rfl))
        (repeat (first | simp only [Act.put] | simp only [List.setIfInBounds_toArray] | simp only [List.set_cons_zero] | simp only [List.set_cons_succ]))
        refine AnyL.one (i := 11) (by kernel_rfl) rfl (fun K hK => ?_)
        go_simp
        refine hK.out _ _ (fun h => nomatch (show true = false from h)) (fun _ => ?_)
        clear hK K
        (repeat (first | simp only [Act.put] | simp only [List.setIfInBounds_toArray] | simp only [List.set_cons_zero] | simp only [List.set_cons_succ]))
        refine AnyL.done (by kernel_rfl) ?_
        go_wp2_with fail
        go_meet
        case rel => exact ⟨rfl, rfl, HB7⟩
      case rest =>
        obtain ⟨rfl, rfl, HBc⟩ := hcut
        have HB4 := Lib.hid (HB.out.trans (HBc.out.mono HB.out.size))
        obtain ⟨c0, c1, c2, c3, c4, c5, ck0⟩ := HC.out wc HBc.out
        obtain ⟨z1, z2⟩ := z
        clear HC D1 HBc
        obtain ⟨rg, hrg⟩ : ∃ r, r = b.rng := ⟨_, rfl⟩
        have HSN := Lib.hid (show nsumTo b (k + 1) = (nsumTo b k + z1 % rg) % rg by show (nsumTo b k + (numberD b (nthI b.clubs k)).1 % b.rng) % b.rng = _; rw [← HY.out, ← HZ.out, hrg])
        have HSW := Lib.hid (show (IntKind.u64.wrap ((nsumTo b k : Int) + (z1 : Int) % (rg : Int))).tmod (rg : Int) = _ from sum_wrap (nx := z1) (by rw [hrg]; exact nsumTo_lt b HNO.out.o1 k) (by rw [hrg]; exact HNO.out.o60))
        have hr0 : (rg : Int) ≠ 0 := by have := HNO.out.o1; omega
        obtain ⟨q, hq⟩ : ∃ q, q = nsumTo b k := ⟨_, rfl⟩
        rw [← hrg] at c2
        rw [← hq] at HSN HSW ⊢
        clear hrg hq
        dsimp only
        go_upto_region 11 with fail
        go_quiet (fail)
        go_wp2_with fail
        go_roundw
        case rel => exact ⟨k + 1, by omega, by go_num, by rw [HSN.out, HSW.out], Lib.hid (below_drewN HB4.out _)⟩
        case measure => simp [intOf]; omega
    · obtain rfl : k = b.clubs.length := by omega
      have hk1 : ¬ (b.clubs.length : Int) < (b.clubs.length : Int) := by omega
      go_wp2_with fail
      go_ret2
      rw [HQ.out]
      exact ⟨rfl, HBw.out⟩
end Go.Proofs.YtgaanndidcdbpaaGreat
