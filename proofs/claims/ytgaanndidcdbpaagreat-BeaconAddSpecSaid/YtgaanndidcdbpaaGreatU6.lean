/- The reference's Check. -/
import Derived.Test.YtgaanndidcdbpaaGreatV1
import Derived.Test.YtgaanndidcdbpaaGreatZI
import Derived.BigQuiet
namespace Go.Proofs.YtgaanndidcdbpaaGreat
open Go.RowKit Go.Shelf

set_option maxRecDepth 100000 in
set_option maxHeartbeats 16000000 in
theorem rcheck_any (w : World) (M : Nat → Prop) (v : Value) (b : BeaD) (h : IsBea w M v b) (hs : SmallB b) : Calls Tryz.prog 11 #[v] w (RetE (chkD b) w) := by
  obtain ⟨cA, cc, kA, kc, rA, rc, oA, oc, rfl, i1, i2, i3, i4⟩ := h.parts
  have HI1 := Lib.hid i1
  have HI2 := Lib.hid i2
  have HI3 := Lib.hid i3
  have HI4 := Lib.hid i4
  have HBE := Lib.hid h
  have HS := Lib.hid hs
  clear h hs i1 i2 i3 i4
  go_enter Tryz.func11, Tryz.ntmps11
  go_upto_region 1 with fail
  refine nameC fun W1 hW1 => ?_
  have hb1 : Below w.heap.size w W1 := by rw [hW1.out]; exact (Below.refl _ _).alloc (Nat.le_refl _) _
  have k0 : W1.heap[w.heap.size]? = some (.cells #[.slice cA b.clubs.length cc, .int .i64 b.thr, .int .u64 (b.rng : Int), .slice kA b.coms.length kc, .slice rA b.revs.length rc, .slice oA b.opns.length oc] 28 (0, 0)) := by rw [hW1.out]; exact heap_alloc_new _ _
  have K0 := Lib.hid k0
  have HB1 := Lib.hid hb1
  have HCC := Lib.hid (show ∀ W', Below W1.heap.size W1 W' → (W'.cell? ⟨w.heap.size, 0, none⟩ = some (.slice cA b.clubs.length cc) ∧ W'.cell? ⟨w.heap.size, 1, none⟩ = some (.int .i64 b.thr) ∧ W'.cell? ⟨w.heap.size, 2, none⟩ = some (.int .u64 (b.rng : Int)) ∧ W'.cell? ⟨w.heap.size, 3, none⟩ = some (.slice kA b.coms.length kc) ∧ W'.cell? ⟨w.heap.size, 4, none⟩ = some (.slice rA b.revs.length rc) ∧ W'.cell? ⟨w.heap.size, 5, none⟩ = some (.slice oA b.opns.length oc)) from fun W' h => by
    have e0 := (h.block _ (lt_heap K0.out)).trans K0.out
    exact ⟨cell_of e0 rfl, cell_of e0 rfl, cell_of e0 rfl, cell_of e0 rfl, cell_of e0 rfl, cell_of e0 rfl⟩)
  clear hW1 hb1 k0
  obtain ⟨c0, c1, c2, c3, c4, c5⟩ := HCC.out W1 (Below.refl _ _)
  go_wp2_with fail
  refine (rnew_any W1 M _ b.clubs b.thr b.rng (IsSl.below HI1.out HB1.out) HS.out.cl).mono ?_
  rintro e W2 ⟨bv, rfl, hbv, hb⟩
  obtain ⟨y0, y1, y2, y3, y4, y5, y6, y7, y8, y9, y10, y11, y12, y13, rfl⟩ := hbv.shape
  have HB2 : Hid (Below W1.heap.size W1 W2) := Lib.hid hb
  obtain ⟨nb, hnb⟩ : ∃ q, q = newB b.clubs b.thr b.rng := ⟨_, rfl⟩
  have HNB := Lib.hid hnb
  obtain ⟨e1, he1⟩ : ∃ q, q = (newD b.clubs b.thr b.rng).2 := ⟨_, rfl⟩
  have HE1 := Lib.hid (show (e1 == 0) = nb by
    rw [he1, hnb]; unfold newD
    cases newB b.clubs b.thr b.rng <;> rfl)
  rw [← he1]
  clear hb hbv hnb he1 c0 c1 c2 c3 c4 c5
  go_upto_region 2 with fail
  refine nameC fun W3 hW3 => ?_
  have hb3 : Below W2.heap.size W2 W3 := by rw [hW3.out]; exact (Below.refl _ _).alloc (Nat.le_refl _) _
  have HB := Lib.hid (HB2.out.trans (hb3.mono HB2.out.size))
  clear hW3 hb3 HB2
  go_cut [5] (fun s5 W => s5 = .bool (G0 b) ∧ W = W3)
  case first =>
    as_aux_lemma =>
      obtain ⟨c0, c1, c2, c3, c4, c5⟩ := HCC.out W3 HB.out
      have t1 := HE1.out
      have HG := Lib.hid (show G0 b = (nb && decide (b.coms.length ≤ b.clubs.length)) by unfold G0; rw [HNB.out])
      by_cases hle : b.coms.length ≤ b.clubs.length
      · have t2 : decide ((b.coms.length : Int) ≤ (b.clubs.length : Int)) = true := decide_eq_true (by omega)
        have t3 : decide (b.coms.length ≤ b.clubs.length) = true := decide_eq_true hle
        clear hle
        cases nb <;> (go_wp2_with fail; go_meet; case rel => exact ⟨by rw [HG.out, t3]; rfl, rfl⟩)
      · have t2 : decide ((b.coms.length : Int) ≤ (b.clubs.length : Int)) = false := decide_eq_false (by omega)
        have t3 : decide (b.coms.length ≤ b.clubs.length) = false := decide_eq_false hle
        clear hle
        cases nb <;> (go_wp2_with fail; go_meet; case rel => exact ⟨by rw [HG.out, t3]; rfl, rfl⟩)
  case rest =>
    obtain ⟨rfl, rfl⟩ := hcut
    clear HE1 HNB
    have HMX := Lib.hid (show b.coms.length ≤ 1000 from HS.out.co)
    obtain ⟨m, hm⟩ : ∃ m, m = b.coms.length := ⟨_, rfl⟩
    have HM := Lib.hid hm
    have hm9 : m ≤ 1000 := by rw [hm]; exact HMX.out
    rw [← hm] at HCC HI2 HBE ⊢
    clear hm HMX
    go_wp2_with fail
    go_loopw [5, 6] (fun s5 so wr => ∃ k : Nat, k ≤ m ∧ so = .int .i64 (k : Int) ∧ ∃ g : Bool, s5 = .bool g ∧ Hid ((g = true → G0 b = true ∧ ∀ i, i < k → okC b i = true) ∧ (g = false → G1 b = false)) ∧ Hid (Below W1.heap.size W1 wr)) (fun _ so _ => m - (intOf so).toNat)
    case atStart => exact ⟨0, Nat.zero_le _, rfl, _, rfl, Lib.hid ⟨fun h => ⟨h, fun i hi => absurd hi (by omega)⟩, fun h => by unfold G1; rw [h]; rfl⟩, HB⟩
    case round =>
      as_aux_lemma =>
        clear HB
        obtain ⟨k, hk, rfl, g, rfl, HG, HB⟩ := hrel
        have HBw := Lib.hid (HB1.out.trans (HB.out.mono HB1.out.size))
        obtain ⟨c0, c1, c2, c3, c4, c5⟩ := HCC.out wr HB.out
        go_upto_region 4 with fail
        go_cut [40] (fun sc W => sc = .bool (decide (k < m) && g) ∧ W = wr)
        case first =>
          as_aux_lemma =>
            by_cases hlt : k < m
            · have hk1 : (k : Int) < (m : Int) := by omega
              cases g <;> (go_wp2_with fail; go_meet; case rel => exact ⟨by simp [hlt], rfl⟩)
            · have hk1 : ¬ (k : Int) < (m : Int) := by omega
              go_wp2_with fail
              go_meet
              case rel => exact ⟨by simp [hlt], rfl⟩
        case rest =>
          obtain ⟨rfl, rfl⟩ := hcut
          by_cases hc : (decide (k < m) && g) = true
          · have hcs := hc
            rw [Bool.and_eq_true, decide_eq_true_eq] at hc
            obtain ⟨hlt, rfl⟩ := hc
            rw [hcs]
            clear hcs
            have hk1 : (k : Int) < (m : Int) := by omega
            have hk0 : (0 : Int) ≤ (k : Int) := by omega
            have HKL := Lib.hid (show k < b.coms.length by rw [← HM.out]; exact hlt)
            obtain ⟨g9, o9, qA, qc, rfl, hgl, hc0, hc1, hu⟩ := HI2.out.at_ HBw.out HKL.out
            have HUU := Lib.hid hu
            obtain ⟨z, hz⟩ : ∃ z, z = comB b (comN b.coms k) := ⟨_, rfl⟩
            have HZ := Lib.hid hz
            have D1 := Lib.hid (fun (W : World) (hW : Below wc.heap.size wc W) => Lib.hid (rcfits_any W M M _ _ b (comN b.coms k) (HBE.out.below (HBw.out.trans (hW.mono HBw.out.size))) HS.out ⟨_, rfl, IsSl.below HUU.out (HBw.out.trans (hW.mono HBw.out.size))⟩ (HS.out.chW k HKL.out).2))
            rw [← hz] at D1
            (try dsimp only at D1)
            obtain ⟨yc, hyc⟩ : ∃ q, q = (comN b.coms k).club := ⟨_, rfl⟩
            obtain ⟨yl, hyl⟩ : ∃ q, q = (comN b.coms k).checks.length := ⟨_, rfl⟩
            have HYC := Lib.hid hyc
            rw [← hyc] at hc0 D1
            rw [← hyl] at hc1 D1
            have hc0' := hc0
            clear hyc hyl hu hgl
            have HC := Lib.hid (show ∀ W', Below wc.heap.size wc W' → (W'.cell? ⟨w.heap.size, 0, none⟩ = some (.slice cA b.clubs.length cc) ∧ W'.cell? ⟨w.heap.size, 1, none⟩ = some (.int .i64 b.thr) ∧ W'.cell? ⟨w.heap.size, 2, none⟩ = some (.int .u64 (b.rng : Int)) ∧ W'.cell? ⟨w.heap.size, 3, none⟩ = some (.slice (some ⟨g9, o9, none⟩) m kc) ∧ W'.cell? ⟨w.heap.size, 4, none⟩ = some (.slice rA b.revs.length rc) ∧ W'.cell? ⟨w.heap.size, 5, none⟩ = some (.slice oA b.opns.length oc) ∧ W'.cell? ⟨g9, o9 + k * 2, none⟩ = some (.int .i64 yc) ∧ W'.cell? ⟨g9, o9 + k * 2 + 1, none⟩ = some (.slice qA yl qc)) from fun W' h => by
              obtain ⟨c0, c1, c2, c3, c4, c5⟩ := HCC.out W' (HB.out.trans (h.mono HB.out.size))
              exact ⟨c0, c1, c2, c3, c4, c5, (h.cell (p := ⟨g9, o9 + k * 2, none⟩) (lt_of_cell hc0)).trans hc0, (h.cell (p := ⟨g9, o9 + k * 2 + 1, none⟩) (lt_of_cell hc1)).trans hc1⟩)
            clear hz c0 c1 c2 c3 c4 c5 hc0 hc1 hc0'
            go_upto_region 6 with fail
            go_cut [5] (fun s5 W => s5 = .bool z ∧ Hid (Below wc.heap.size wc W))
            case first =>
              as_aux_lemma =>
                refine anyL_begin (z := 6) (S := fun W9 => Below wc.heap.size wc W9) (by kernel_rfl) (Below.drew (Below.refl _ _)) (fun hHeld => ?_)
                refine AnyL.takeD (i := 0) (d := some 43) (v := ?_) rfl rfl (by kernel_rfl) (by kernel_rfl) (fun _ _ _ h => h) (by kernel_rfl) (by kernel_rfl) (by kernel_rfl) (Or.inl ⟨by rfl, ?_⟩) hHeld ?_
                rotate_left 1
                focus (intro w hSw; (try dsimp only at hSw); obtain ⟨c0, c1, c2, c3, c4, c5, ck0, ck1⟩ := HC.out w hSw; go_simp; (try with_reducible rfl))
                (repeat (first | simp only [Act.put] | simp only [List.setIfInBounds_toArray] | simp only [List.set_cons_zero] | simp only [List.set_cons_succ]))
                refine AnyL.takeD (i := 1) (d := some 44) (v := ?_) rfl rfl (by kernel_rfl) (by kernel_rfl) (fun _ _ _ h => h) (by kernel_rfl) (by kernel_rfl) (by kernel_rfl) (Or.inl ⟨by rfl, ?_⟩) hHeld ?_
                rotate_left 1
                focus (intro w hSw; (try dsimp only at hSw); go_simp; (try with_reducible rfl))
                (repeat (first | simp only [Act.put] | simp only [List.setIfInBounds_toArray] | simp only [List.set_cons_zero] | simp only [List.set_cons_succ]))
                refine AnyL.takeD (i := 2) (d := some 45) (v := ?_) rfl rfl (by kernel_rfl) (by kernel_rfl) (fun _ _ _ h => h) (by kernel_rfl) (by kernel_rfl) (by kernel_rfl) (Or.inl ⟨by rfl, ?_⟩) hHeld ?_
                rotate_left 1
                focus (intro w hSw; (try dsimp only at hSw); obtain ⟨c0, c1, c2, c3, c4, c5, ck0, ck1⟩ := HC.out w hSw; go_simp; (try with_reducible rfl))
                (repeat (first | simp only [Act.put] | simp only [List.setIfInBounds_toArray] | simp only [List.set_cons_zero] | simp only [List.set_cons_succ]))
                refine AnyL.takeD (i := 3) (d := some 46) (v := ?_) rfl rfl (by kernel_rfl) (by kernel_rfl) (fun _ _ _ h => h) (by kernel_rfl) (by kernel_rfl) (by kernel_rfl) (Or.inl ⟨by rfl, ?_⟩) hHeld ?_
                rotate_left 1
                focus (intro w hSw; (try dsimp only at hSw); go_simp; (try with_reducible rfl))
                (repeat (first | simp only [Act.put] | simp only [List.setIfInBounds_toArray] | simp only [List.set_cons_zero] | simp only [List.set_cons_succ]))
                refine AnyL.takeD (i := 4) (d := some 47) (v := ?_) rfl rfl (by kernel_rfl) (by kernel_rfl) (fun _ _ _ h => h) (by kernel_rfl) (by kernel_rfl) (by kernel_rfl) (Or.inl ⟨by rfl, ?_⟩) hHeld ?_
                rotate_left 1
                focus (intro w hSw; (try dsimp only at hSw); go_simp; (try with_reducible rfl))
                (repeat (first | simp only [Act.put] | simp only [List.setIfInBounds_toArray] | simp only [List.set_cons_zero] | simp only [List.set_cons_succ]))
                refine AnyL.takeD (i := 5) (d := some 48) (v := ?_) rfl rfl (by kernel_rfl) (by kernel_rfl) (fun _ _ _ h => h) (by kernel_rfl) (by kernel_rfl) (by kernel_rfl) (Or.inl ⟨by rfl, ?_⟩) hHeld ?_
                rotate_left 1
                focus (intro w hSw; (try dsimp only at hSw); obtain ⟨c0, c1, c2, c3, c4, c5, ck0, ck1⟩ := HC.out w hSw; go_simp; (try with_reducible rfl))
                (repeat (first | simp only [Act.put] | simp only [List.setIfInBounds_toArray] | simp only [List.set_cons_zero] | simp only [List.set_cons_succ]))
                have HBa : Hid (Below wc.heap.size wc wc.drew) := Lib.hid (Below.drew (Below.refl _ _))
                refine AnyL.one (i := 6) (by kernel_rfl) rfl (fun K hK => ?_)
                go_simp
                go_at_call 31
                refine ((D1.out _ HBa.out).out).mono ?_
                rintro e w7 ⟨rfl, hb7⟩
                have HB7 := Lib.hid (HBa.out.trans (hb7.mono HBa.out.size))
                clear hb7
                refine hK.out _ _ (fun h => nomatch (show true = false from h)) (fun _ => ?_)
                clear hK K
                (repeat (first | simp only [Act.put] | simp only [List.setIfInBounds_toArray] | simp only [List.set_cons_zero] | simp only [List.set_cons_succ]))
                refine AnyL.one (i := 7) (by kernel_rfl) rfl (fun K hK => ?_)
                go_simp
                refine hK.out _ _ (fun h => nomatch (show true = false from h)) (fun _ => ?_)
                clear hK K
                (repeat (first | simp only [Act.put] | simp only [List.setIfInBounds_toArray] | simp only [List.set_cons_zero] | simp only [List.set_cons_succ]))
                refine AnyL.done (by kernel_rfl) ?_
                go_wp2_with fail
                go_meet
                case rel => exact ⟨rfl, HB7⟩
            case rest =>
              obtain ⟨rfl, HBc⟩ := hcut
              have HB2 := Lib.hid (HB.out.trans (HBc.out.mono HB.out.size))
              go_wp2_with fail
              go_loopw [5, 7] (fun s5 si wr => ∃ j : Nat, j ≤ k ∧ si = .int .i64 (j : Int) ∧ s5 = .bool (z && dsC b k j) ∧ Hid (Below W1.heap.size W1 wr)) (fun _ si _ => k - (intOf si).toNat)
              case atStart => exact ⟨0, Nat.zero_le _, rfl, by rw [show dsC b k 0 = true from rfl, Bool.and_true], HB2⟩
              case round =>
                as_aux_lemma =>
                  clear HB2 HBc HC D1
                  obtain ⟨j, hj, rfl, rfl, HBj⟩ := hrel
                  by_cases hjk : j < k
                  · have hj1 : (j : Int) < (k : Int) := by omega
                    have hj0 : (0 : Int) ≤ (j : Int) := by omega
                    have hjm : (j : Int) < (m : Int) := by omega
                    have HBjw := Lib.hid (HB1.out.trans (HBj.out.mono HB1.out.size))
                    obtain ⟨c0, c1, c2, c3, c4, c5⟩ := HCC.out wr HBj.out
                    obtain ⟨g8, o8, rA8, rc8, e8, hgl, dj, -, -⟩ := HI2.out.at_ HBjw.out (show j < b.coms.length by rw [← HM.out]; omega)
                    cases e8
                    obtain ⟨g7, o7, rA7, rc7, e7, hgl7, dk, -, -⟩ := HI2.out.at_ HBjw.out HKL.out
                    cases e7
                    obtain ⟨xj, hxj⟩ : ∃ q, q = (comN b.coms j).club := ⟨_, rfl⟩
                    obtain ⟨xk, hxk⟩ : ∃ q, q = (comN b.coms k).club := ⟨_, rfl⟩
                    rw [← hxj] at dj
                    rw [← hxk] at dk
                    obtain ⟨nz, hnz⟩ : ∃ q, q = (xj != xk) := ⟨_, rfl⟩
                    have HNZ := Lib.hid (show nz = decide ((comN b.coms j).club ≠ (comN b.coms k).club) by rw [hnz, hxj, hxk, Bool.eq_iff_iff, bne_iff_ne, decide_eq_true_eq])
                    have hnz' := hnz.symm
                    clear hnz hxj hxk hgl hgl7
                    obtain ⟨gg, hgg⟩ : ∃ q, q = (z && dsC b k j) := ⟨_, rfl⟩
                    have HGG := Lib.hid hgg
                    rw [← hgg]
                    clear hgg
                    have HS5 := Lib.hid (show (gg && nz) = (z && dsC b k (j + 1)) by
                      rw [HGG.out, HNZ.out, Bool.and_assoc]
                      congr 1
                      unfold dsC
                      rw [List.range_succ, List.all_append]
                      simp)
                    go_upto_region 10 with fail
                    cases gg <;> cases nz <;> (go_quiet (fail); go_wp2_with fail; go_roundw; (case rel => exact ⟨j + 1, by omega, by go_num, by rw [← HS5.out]; rfl, Lib.hid (below_drewN HBj.out _)⟩); (case measure => simp [intOf]; omega))
                  · obtain rfl : j = k := by omega
                    have hj1 : ¬ (j : Int) < (j : Int) := by omega
                    have HG2 := Lib.hid (show ((z && dsC b j j) = true → G0 b = true ∧ ∀ i, i < j + 1 → okC b i = true) ∧ ((z && dsC b j j) = false → G1 b = false) from by
                      have e : okC b j = (z && dsC b j j) := by unfold okC; rw [HZ.out]
                      refine ⟨fun h => ⟨(HG.out.1 (by simp)).1, fun i hi => ?_⟩, fun h => ?_⟩
                      · rcases Nat.lt_or_ge i j with q1 | q1
                        · exact (HG.out.1 (by simp)).2 i q1
                        · rw [show i = j by omega, e]; exact h
                      · unfold G1
                        rw [show (List.range b.coms.length).all (okC b) = false from List.all_eq_false.2 ⟨j, List.mem_range.2 HKL.out, by rw [e, h]; simp⟩, Bool.and_false])
                    clear hjk hj
                    go_wp2_with fail
                    go_roundw
                    case rel => exact ⟨j + 1, by omega, by go_num, _, rfl, HG2, HBj⟩
                    case measure => simp [intOf]; omega
          · have hcs : (decide (k < m) && g) = false := by simpa using hc
            have HGE := Lib.hid (show g = G1 b by
              cases hg : g with
              | false => exact (HG.out.2 hg).symm
              | true =>
                rw [hg, Bool.and_true, decide_eq_true_eq] at hc
                obtain ⟨q1, q2⟩ := HG.out.1 hg
                unfold G1
                rw [q1, Bool.true_and]
                exact (List.all_eq_true.2 fun i hi => q2 i (by have := List.mem_range.1 hi; have := HM.out; omega)).symm)
            rw [hcs, HGE.out]
            clear hcs hc c0 c1 c2 c3 c4 c5 HG HBw HGE
            rw [HM.out] at HCC HI2 HBE ⊢
            clear HM hm9 hk
            go_upto_region 11 with fail
            go_cut [5] (fun s5 W => s5 = .bool (G2 b) ∧ Hid (Below W1.heap.size W1 W))
            case first =>
              as_aux_lemma =>
                obtain ⟨c0, c1, c2, c3, c4, c5⟩ := HCC.out wc HB.out
                have h1 := HS.out.cl
                have h2 := HS.out.re
                have h3 := HS.out.op
                obtain ⟨nn, hnn⟩ : ∃ q : Nat, q = b.clubs.length * b.clubs.length := ⟨_, rfl⟩
                have hnn1 : nn ≤ 1000000 := by rw [hnn]; exact Nat.mul_le_mul h1 h1
                have hnn2 : (b.clubs.length : Int) * (b.clubs.length : Int) = (nn : Int) := by rw [hnn]; rfl
                obtain ⟨p1, hp1⟩ : ∃ q, q = ((b.revs.length : Int) + (b.opns.length : Int) == 0) := ⟨_, rfl⟩
                obtain ⟨p3, hp3⟩ : ∃ q, q = decide ((b.revs.length : Int) ≤ (b.clubs.length : Int)) := ⟨_, rfl⟩
                obtain ⟨p4, hp4⟩ : ∃ q, q = decide ((b.opns.length : Int) ≤ (nn : Int)) := ⟨_, rfl⟩
                obtain ⟨q2, hq2⟩ : ∃ q, q = complR b := ⟨_, rfl⟩
                obtain ⟨g1, hg1⟩ : ∃ q, q = G1 b := ⟨_, rfl⟩
                have HG2 := Lib.hid (show G2 b = (g1 && ((p1 || q2) && (p3 && p4))) by
                  unfold G2
                  rw [← hg1, ← hq2]
                  have e1 : decide (b.revs.length + b.opns.length = 0) = p1 := by rw [hp1, Bool.eq_iff_iff, decide_eq_true_eq, beq_iff_eq]; omega
                  have e3 : decide (b.revs.length ≤ b.clubs.length) = p3 := by rw [hp3, Bool.eq_iff_iff, decide_eq_true_eq, decide_eq_true_eq]; omega
                  have e4 : decide (b.opns.length ≤ b.clubs.length * b.clubs.length) = p4 := by rw [hp4, ← hnn, Bool.eq_iff_iff, decide_eq_true_eq, decide_eq_true_eq]; omega
                  rw [e1, e3, e4])
                have HQ2 := Lib.hid hq2
                rw [← hg1]
                replace hp1 := hp1.symm
                have hp3n : decide (b.revs.length ≤ b.clubs.length) = p3 := by rw [hp3, Bool.eq_iff_iff, decide_eq_true_eq, decide_eq_true_eq]; omega
                have hp4n : decide (b.opns.length ≤ nn) = p4 := by rw [hp4, Bool.eq_iff_iff, decide_eq_true_eq, decide_eq_true_eq]; omega
                replace hp3 := hp3.symm
                replace hp4 := hp4.symm
                clear hq2 hg1 hnn
                cases g1 with
                | false =>
                  go_wp2_with fail
                  go_meet
                  case rel => exact ⟨by rw [HG2.out]; rfl, HB⟩
                | true =>
                  cases p1 with
                  | true =>
                    cases p3 <;> cases p4 <;> (go_wp2_with fail; go_meet; case rel => exact ⟨by rw [HG2.out]; rfl, HB⟩)
                  | false =>
                    go_wp2_with fail
                    refine (rcomplete_any wc M _ b (HBE.out.below (HB1.out.trans (HB.out.mono HB1.out.size))) HS.out).mono ?_
                    rintro e W7 ⟨rfl, hb7⟩
                    rw [← HQ2.out]
                    have HB7 := Lib.hid (HB.out.trans (hb7.mono HB.out.size))
                    clear hb7 c0 c1 c2 c3 c4 c5 HQ2
                    obtain ⟨c0, c1, c2, c3, c4, c5⟩ := HCC.out W7 HB7.out
                    cases q2 <;> cases p3 <;> cases p4 <;> (go_wp2_with fail; go_meet; case rel => exact ⟨by rw [HG2.out]; rfl, HB7⟩)
            case rest =>
              obtain ⟨rfl, HBn⟩ := hcut
              clear HB
              have HB := HBn
              clear HBn
              have HMX := Lib.hid (show b.revs.length ≤ 1000 from HS.out.re)
              obtain ⟨m, hm⟩ : ∃ m, m = b.revs.length := ⟨_, rfl⟩
              have HM := Lib.hid hm
              have hm9 : m ≤ 1000 := by rw [hm]; exact HMX.out
              rw [← hm] at HCC HI3 HBE ⊢
              clear hm HMX
              go_wp2_with fail
              go_loopw [5, 8] (fun s5 so wr => ∃ k : Nat, k ≤ m ∧ so = .int .i64 (k : Int) ∧ ∃ g : Bool, s5 = .bool g ∧ Hid ((g = true → G2 b = true ∧ ∀ i, i < k → okR b i = true) ∧ (g = false → G3 b = false)) ∧ Hid (Below W1.heap.size W1 wr)) (fun _ so _ => m - (intOf so).toNat)
              case atStart => exact ⟨0, Nat.zero_le _, rfl, _, rfl, Lib.hid ⟨fun h => ⟨h, fun i hi => absurd hi (by omega)⟩, fun h => by unfold G3; rw [h]; rfl⟩, HB⟩
              case round =>
                as_aux_lemma =>
                  clear HB
                  obtain ⟨k, hk, rfl, g, rfl, HG, HB⟩ := hrel
                  have HBw := Lib.hid (HB1.out.trans (HB.out.mono HB1.out.size))
                  obtain ⟨c0, c1, c2, c3, c4, c5⟩ := HCC.out wr HB.out
                  go_upto_region 13 with fail
                  go_cut [115] (fun sc W => sc = .bool (decide (k < m) && g) ∧ W = wr)
                  case first =>
                    as_aux_lemma =>
                      by_cases hlt : k < m
                      · have hk1 : (k : Int) < (m : Int) := by omega
                        cases g <;> (go_wp2_with fail; go_meet; case rel => exact ⟨by simp [hlt], rfl⟩)
                      · have hk1 : ¬ (k : Int) < (m : Int) := by omega
                        go_wp2_with fail
                        go_meet
                        case rel => exact ⟨by simp [hlt], rfl⟩
                  case rest =>
                    obtain ⟨rfl, rfl⟩ := hcut
                    by_cases hc : (decide (k < m) && g) = true
                    · have hcs := hc
                      rw [Bool.and_eq_true, decide_eq_true_eq] at hc
                      obtain ⟨hlt, rfl⟩ := hc
                      rw [hcs]
                      clear hcs
                      have hk1 : (k : Int) < (m : Int) := by omega
                      have hk0 : (0 : Int) ≤ (k : Int) := by omega
                      have HKL := Lib.hid (show k < b.revs.length by rw [← HM.out]; exact hlt)
                      obtain ⟨A9', c9', e9', -, -, hcells⟩ := HI3.out
                      obtain ⟨rfl, hmm, rfl⟩ := Value.slice.inj e9'
                      rw [← hmm] at hcells
                      clear hmm e9'
                      obtain ⟨g9, o9, rfl, -, hgl, hc0, hc1⟩ := Cells.at2 hcells HBw.out hlt
                      have hc0 : wc.cell? ⟨g9, o9 + k * 2, none⟩ = some (.int .i64 (revN b.revs k).club) := hc0
                      have hc1 : wc.cell? ⟨g9, o9 + k * 2 + 1, none⟩ = some (.int .u64 ((revN b.revs k).num : Int)) := hc1
                      obtain ⟨z, hz⟩ : ∃ z, z = rvR b (revN b.revs k) := ⟨_, rfl⟩
                      have HZ := Lib.hid hz
                      have D1 := Lib.hid (fun (W : World) (hW : Below wc.heap.size wc W) => Lib.hid (rrfits_any W M _ b (revN b.revs k) (HBE.out.below (HBw.out.trans (hW.mono HBw.out.size))) HS.out (HS.out.reW k HKL.out).2))
                      rw [← hz] at D1
                      (try dsimp only at D1)
                      obtain ⟨yc, hyc⟩ : ∃ q, q = (revN b.revs k).club := ⟨_, rfl⟩
                      obtain ⟨yl, hyl⟩ : ∃ q, q = (revN b.revs k).num := ⟨_, rfl⟩
                      rw [← hyc] at hc0 D1
                      rw [← hyl] at hc1 D1
                      clear hyc hyl hgl hcells
                      have HC := Lib.hid (show ∀ W', Below wc.heap.size wc W' → (W'.cell? ⟨w.heap.size, 0, none⟩ = some (.slice cA b.clubs.length cc) ∧ W'.cell? ⟨w.heap.size, 1, none⟩ = some (.int .i64 b.thr) ∧ W'.cell? ⟨w.heap.size, 2, none⟩ = some (.int .u64 (b.rng : Int)) ∧ W'.cell? ⟨w.heap.size, 3, none⟩ = some (.slice kA b.coms.length kc) ∧ W'.cell? ⟨w.heap.size, 4, none⟩ = some (.slice (some ⟨g9, o9, none⟩) m rc) ∧ W'.cell? ⟨w.heap.size, 5, none⟩ = some (.slice oA b.opns.length oc) ∧ W'.cell? ⟨g9, o9 + k * 2, none⟩ = some (.int .i64 yc) ∧ W'.cell? ⟨g9, o9 + k * 2 + 1, none⟩ = some (.int .u64 (yl : Int))) from fun W' h => by
                        obtain ⟨c0, c1, c2, c3, c4, c5⟩ := HCC.out W' (HB.out.trans (h.mono HB.out.size))
                        exact ⟨c0, c1, c2, c3, c4, c5, (h.cell (p := ⟨g9, o9 + k * 2, none⟩) (lt_of_cell hc0)).trans hc0, (h.cell (p := ⟨g9, o9 + k * 2 + 1, none⟩) (lt_of_cell hc1)).trans hc1⟩)
                      clear hz c0 c1 c2 c3 c4 c5 hc0 hc1
                      go_upto_region 15 with fail
                      go_cut [5] (fun s5 W => s5 = .bool z ∧ Hid (Below wc.heap.size wc W))
                      case first =>
                        as_aux_lemma =>
                          refine anyL_begin (z := 6) (S := fun W9 => Below wc.heap.size wc W9) (by kernel_rfl) (Below.drew (Below.refl _ _)) (fun hHeld => ?_)
                          refine AnyL.takeD (i := 0) (d := some 118) (v := ?_) rfl rfl (by kernel_rfl) (by kernel_rfl) (fun _ _ _ h => h) (by kernel_rfl) (by kernel_rfl) (by kernel_rfl) (Or.inl ⟨by rfl, ?_⟩) hHeld ?_
                          rotate_left 1
                          focus (intro w hSw; (try dsimp only at hSw); obtain ⟨c0, c1, c2, c3, c4, c5, ck0, ck1⟩ := HC.out w hSw; go_simp; (try with_reducible rfl))
                          (repeat (first | simp only [Act.put] | simp only [List.setIfInBounds_toArray] | simp only [List.set_cons_zero] | simp only [List.set_cons_succ]))
                          refine AnyL.takeD (i := 1) (d := some 119) (v := ?_) rfl rfl (by kernel_rfl) (by kernel_rfl) (fun _ _ _ h => h) (by kernel_rfl) (by kernel_rfl) (by kernel_rfl) (Or.inl ⟨by rfl, ?_⟩) hHeld ?_
                          rotate_left 1
                          focus (intro w hSw; (try dsimp only at hSw); go_simp; (try with_reducible rfl))
                          (repeat (first | simp only [Act.put] | simp only [List.setIfInBounds_toArray] | simp only [List.set_cons_zero] | simp only [List.set_cons_succ]))
                          refine AnyL.takeD (i := 2) (d := some 120) (v := ?_) rfl rfl (by kernel_rfl) (by kernel_rfl) (fun _ _ _ h => h) (by kernel_rfl) (by kernel_rfl) (by kernel_rfl) (Or.inl ⟨by rfl, ?_⟩) hHeld ?_
                          rotate_left 1
                          focus (intro w hSw; (try dsimp only at hSw); obtain ⟨c0, c1, c2, c3, c4, c5, ck0, ck1⟩ := HC.out w hSw; go_simp; (try with_reducible rfl))
                          (repeat (first | simp only [Act.put] | simp only [List.setIfInBounds_toArray] | simp only [List.set_cons_zero] | simp only [List.set_cons_succ]))
                          refine AnyL.takeD (i := 3) (d := some 121) (v := ?_) rfl rfl (by kernel_rfl) (by kernel_rfl) (fun _ _ _ h => h) (by kernel_rfl) (by kernel_rfl) (by kernel_rfl) (Or.inl ⟨by rfl, ?_⟩) hHeld ?_
                          rotate_left 1
                          focus (intro w hSw; (try dsimp only at hSw); go_simp; (try with_reducible rfl))
                          (repeat (first | simp only [Act.put] | simp only [List.setIfInBounds_toArray] | simp only [List.set_cons_zero] | simp only [List.set_cons_succ]))
                          refine AnyL.takeD (i := 4) (d := some 122) (v := ?_) rfl rfl (by kernel_rfl) (by kernel_rfl) (fun _ _ _ h => h) (by kernel_rfl) (by kernel_rfl) (by kernel_rfl) (Or.inl ⟨by rfl, ?_⟩) hHeld ?_
                          rotate_left 1
                          focus (intro w hSw; (try dsimp only at hSw); go_simp; (try with_reducible rfl))
                          (repeat (first | simp only [Act.put] | simp only [List.setIfInBounds_toArray] | simp only [List.set_cons_zero] | simp only [List.set_cons_succ]))
                          refine AnyL.takeD (i := 5) (d := some 123) (v := ?_) rfl rfl (by kernel_rfl) (by kernel_rfl) (fun _ _ _ h => h) (by kernel_rfl) (by kernel_rfl) (by kernel_rfl) (Or.inl ⟨by rfl, ?_⟩) hHeld ?_
                          rotate_left 1
                          focus (intro w hSw; (try dsimp only at hSw); obtain ⟨c0, c1, c2, c3, c4, c5, ck0, ck1⟩ := HC.out w hSw; go_simp; (try with_reducible rfl))
                          (repeat (first | simp only [Act.put] | simp only [List.setIfInBounds_toArray] | simp only [List.set_cons_zero] | simp only [List.set_cons_succ]))
                          have HBa : Hid (Below wc.heap.size wc wc.drew) := Lib.hid (Below.drew (Below.refl _ _))
                          refine AnyL.one (i := 6) (by kernel_rfl) rfl (fun K hK => ?_)
                          go_simp
                          go_at_call 33
                          refine ((D1.out _ HBa.out).out).mono ?_
                          rintro e w7 ⟨rfl, hb7⟩
                          have HB7 := Lib.hid (HBa.out.trans (hb7.mono HBa.out.size))
                          clear hb7
                          refine hK.out _ _ (fun h => nomatch (show true = false from h)) (fun _ => ?_)
                          clear hK K
                          (repeat (first | simp only [Act.put] | simp only [List.setIfInBounds_toArray] | simp only [List.set_cons_zero] | simp only [List.set_cons_succ]))
                          refine AnyL.one (i := 7) (by kernel_rfl) rfl (fun K hK => ?_)
                          go_simp
                          refine hK.out _ _ (fun h => nomatch (show true = false from h)) (fun _ => ?_)
                          clear hK K
                          (repeat (first | simp only [Act.put] | simp only [List.setIfInBounds_toArray] | simp only [List.set_cons_zero] | simp only [List.set_cons_succ]))
                          refine AnyL.done (by kernel_rfl) ?_
                          go_wp2_with fail
                          go_meet
                          case rel => exact ⟨rfl, HB7⟩
                      case rest =>
                        obtain ⟨rfl, HBc⟩ := hcut
                        have HB2 := Lib.hid (HB.out.trans (HBc.out.mono HB.out.size))
                        go_wp2_with fail
                        go_loopw [5, 9] (fun s5 si wr => ∃ j : Nat, j ≤ k ∧ si = .int .i64 (j : Int) ∧ s5 = .bool (z && dsR b k j) ∧ Hid (Below W1.heap.size W1 wr)) (fun _ si _ => k - (intOf si).toNat)
                        case atStart => exact ⟨0, Nat.zero_le _, rfl, by rw [show dsR b k 0 = true from rfl, Bool.and_true], HB2⟩
                        case round =>
                          as_aux_lemma =>
                            clear HB2 HBc HC D1
                            obtain ⟨j, hj, rfl, rfl, HBj⟩ := hrel
                            by_cases hjk : j < k
                            · have hj1 : (j : Int) < (k : Int) := by omega
                              have hj0 : (0 : Int) ≤ (j : Int) := by omega
                              have hjm : (j : Int) < (m : Int) := by omega
                              have HBjw := Lib.hid (HB1.out.trans (HBj.out.mono HB1.out.size))
                              obtain ⟨c0, c1, c2, c3, c4, c5⟩ := HCC.out wr HBj.out
                              obtain ⟨A9', c9', e9', -, -, hcells⟩ := HI3.out
                              obtain ⟨rfl, hmm, rfl⟩ := Value.slice.inj e9'
                              rw [← hmm] at hcells
                              clear hmm e9'
                              obtain ⟨g8, o8, e8, -, hgl, dj0, -⟩ := Cells.at2 hcells HBjw.out (show j < m by omega)
                              cases e8
                              obtain ⟨g7, o7, e7, -, hgl7, dk0, -⟩ := Cells.at2 hcells HBjw.out hlt
                              cases e7
                              obtain ⟨xj, hxj⟩ : ∃ q, q = (revN b.revs j).club := ⟨_, rfl⟩
                              obtain ⟨xk, hxk⟩ : ∃ q, q = (revN b.revs k).club := ⟨_, rfl⟩
                              have dj : wr.cell? ⟨g9, o9 + j * 2, none⟩ = some (.int .i64 xj) := by rw [hxj]; exact dj0
                              have dk : wr.cell? ⟨g9, o9 + k * 2, none⟩ = some (.int .i64 xk) := by rw [hxk]; exact dk0
                              obtain ⟨nz, hnz⟩ : ∃ q, q = (xj != xk) := ⟨_, rfl⟩
                              have HNZ := Lib.hid (show nz = decide ((revN b.revs j).club ≠ (revN b.revs k).club) by rw [hnz, hxj, hxk, Bool.eq_iff_iff, bne_iff_ne, decide_eq_true_eq])
                              have hnz' := hnz.symm
                              clear hnz hxj hxk hgl hgl7 hcells dj0 dk0
                              obtain ⟨gg, hgg⟩ : ∃ q, q = (z && dsR b k j) := ⟨_, rfl⟩
                              have HGG := Lib.hid hgg
                              rw [← hgg]
                              clear hgg
                              have HS5 := Lib.hid (show (gg && nz) = (z && dsR b k (j + 1)) by
                                rw [HGG.out, HNZ.out, Bool.and_assoc]
                                congr 1
                                unfold dsR
                                rw [List.range_succ, List.all_append]
                                simp)
                              go_upto_region 19 with fail
                              cases gg <;> cases nz <;> (go_quiet (fail); go_wp2_with fail; go_roundw; (case rel => exact ⟨j + 1, by omega, by go_num, by rw [← HS5.out]; rfl, Lib.hid (below_drewN HBj.out _)⟩); (case measure => simp [intOf]; omega))
                            · obtain rfl : j = k := by omega
                              have hj1 : ¬ (j : Int) < (j : Int) := by omega
                              have HG2 := Lib.hid (show ((z && dsR b j j) = true → G2 b = true ∧ ∀ i, i < j + 1 → okR b i = true) ∧ ((z && dsR b j j) = false → G3 b = false) from by
                                have e : okR b j = (z && dsR b j j) := by unfold okR; rw [HZ.out]
                                refine ⟨fun h => ⟨(HG.out.1 (by simp)).1, fun i hi => ?_⟩, fun h => ?_⟩
                                · rcases Nat.lt_or_ge i j with q1 | q1
                                  · exact (HG.out.1 (by simp)).2 i q1
                                  · rw [show i = j by omega, e]; exact h
                                · unfold G3
                                  rw [show (List.range b.revs.length).all (okR b) = false from List.all_eq_false.2 ⟨j, List.mem_range.2 HKL.out, by rw [e, h]; simp⟩, Bool.and_false])
                              clear hjk hj
                              go_wp2_with fail
                              go_roundw
                              case rel => exact ⟨j + 1, by omega, by go_num, _, rfl, HG2, HBj⟩
                              case measure => simp [intOf]; omega
                    · have hcs : (decide (k < m) && g) = false := by simpa using hc
                      have HGE := Lib.hid (show g = G3 b by
                        cases hg : g with
                        | false => exact (HG.out.2 hg).symm
                        | true =>
                          rw [hg, Bool.and_true, decide_eq_true_eq] at hc
                          obtain ⟨q1, q2⟩ := HG.out.1 hg
                          unfold G3
                          rw [q1, Bool.true_and]
                          exact (List.all_eq_true.2 fun i hi => q2 i (by have := List.mem_range.1 hi; have := HM.out; omega)).symm)
                      rw [hcs, HGE.out]
                      clear hcs hc c0 c1 c2 c3 c4 c5 HG HBw HGE
                      rw [HM.out] at HCC HI3 HBE ⊢
                      clear HM hm9 hk
                      have HMX := Lib.hid (show b.opns.length ≤ 1000 from HS.out.op)
                      obtain ⟨m, hm⟩ : ∃ m, m = b.opns.length := ⟨_, rfl⟩
                      have HM := Lib.hid hm
                      have hm9 : m ≤ 1000 := by rw [hm]; exact HMX.out
                      rw [← hm] at HCC HI4 HBE ⊢
                      clear hm HMX
                      go_wp2_with fail
                      go_loopw [5, 10] (fun s5 so wr => ∃ k : Nat, k ≤ m ∧ so = .int .i64 (k : Int) ∧ ∃ g : Bool, s5 = .bool g ∧ Hid ((g = true → G3 b = true ∧ ∀ i, i < k → okO b i = true) ∧ (g = false → G4 b = false)) ∧ Hid (Below W1.heap.size W1 wr)) (fun _ so _ => m - (intOf so).toNat)
                      case atStart => exact ⟨0, Nat.zero_le _, rfl, _, rfl, Lib.hid ⟨fun h => ⟨h, fun i hi => absurd hi (by omega)⟩, fun h => by unfold G4; rw [h]; rfl⟩, HB⟩
                      case round =>
                        as_aux_lemma =>
                          clear HB
                          obtain ⟨k, hk, rfl, g, rfl, HG, HB⟩ := hrel
                          have HBw := Lib.hid (HB1.out.trans (HB.out.mono HB1.out.size))
                          obtain ⟨c0, c1, c2, c3, c4, c5⟩ := HCC.out wr HB.out
                          go_upto_region 21 with fail
                          go_cut [153] (fun sc W => sc = .bool (decide (k < m) && g) ∧ W = wr)
                          case first =>
                            as_aux_lemma =>
                              by_cases hlt : k < m
                              · have hk1 : (k : Int) < (m : Int) := by omega
                                cases g <;> (go_wp2_with fail; go_meet; case rel => exact ⟨by simp [hlt], rfl⟩)
                              · have hk1 : ¬ (k : Int) < (m : Int) := by omega
                                go_wp2_with fail
                                go_meet
                                case rel => exact ⟨by simp [hlt], rfl⟩
                          case rest =>
                            obtain ⟨rfl, rfl⟩ := hcut
                            by_cases hc : (decide (k < m) && g) = true
                            · have hcs := hc
                              rw [Bool.and_eq_true, decide_eq_true_eq] at hc
                              obtain ⟨hlt, rfl⟩ := hc
                              rw [hcs]
                              clear hcs
                              have hk1 : (k : Int) < (m : Int) := by omega
                              have hk0 : (0 : Int) ≤ (k : Int) := by omega
                              have HKL := Lib.hid (show k < b.opns.length by rw [← HM.out]; exact hlt)
                              obtain ⟨A9', c9', e9', -, -, hcells⟩ := HI4.out
                              obtain ⟨rfl, hmm, rfl⟩ := Value.slice.inj e9'
                              rw [← hmm] at hcells
                              clear hmm e9'
                              obtain ⟨g9, o9, rfl, -, hgl, hc0, hc1, hc2, hc3⟩ := Cells.at4 hcells HBw.out hlt
                              have hc0 : wc.cell? ⟨g9, o9 + k * 4, none⟩ = some (.int .i64 (opnN b.opns k).club) := hc0
                              have hc1 : wc.cell? ⟨g9, o9 + k * 4 + 1, none⟩ = some (.int .i64 (opnN b.opns k).frm) := hc1
                              have hc2 : wc.cell? ⟨g9, o9 + k * 4 + 1 + 1, none⟩ = some (.int .u64 ((opnN b.opns k).sh.1 : Int)) := hc2
                              have hc3 : wc.cell? ⟨g9, o9 + k * 4 + 1 + 1 + 1, none⟩ = some (.int .u64 ((opnN b.opns k).sh.2 : Int)) := hc3
                              obtain ⟨z, hz⟩ : ∃ z, z = opR b (opnN b.opns k) := ⟨_, rfl⟩
                              have HZ := Lib.hid hz
                              have D1 := Lib.hid (fun (W : World) (hW : Below wc.heap.size wc W) => Lib.hid (rofits_any W M _ b (opnN b.opns k) (HBE.out.below (HBw.out.trans (hW.mono HBw.out.size))) HS.out))
                              rw [← hz] at D1
                              (try dsimp only at D1)
                              obtain ⟨yc, hyc⟩ : ∃ q, q = (opnN b.opns k).club := ⟨_, rfl⟩
                              obtain ⟨yf, hyf⟩ : ∃ q, q = (opnN b.opns k).frm := ⟨_, rfl⟩
                              obtain ⟨yx, hyx⟩ : ∃ q, q = (opnN b.opns k).sh.1 := ⟨_, rfl⟩
                              obtain ⟨yy, hyy⟩ : ∃ q, q = (opnN b.opns k).sh.2 := ⟨_, rfl⟩
                              rw [← hyc] at hc0 D1
                              rw [← hyf] at hc1 D1
                              rw [← hyx] at hc2 D1
                              rw [← hyy] at hc3 D1
                              clear hyc hyf hyx hyy hgl hcells
                              have HC := Lib.hid (show ∀ W', Below wc.heap.size wc W' → (W'.cell? ⟨w.heap.size, 0, none⟩ = some (.slice cA b.clubs.length cc) ∧ W'.cell? ⟨w.heap.size, 1, none⟩ = some (.int .i64 b.thr) ∧ W'.cell? ⟨w.heap.size, 2, none⟩ = some (.int .u64 (b.rng : Int)) ∧ W'.cell? ⟨w.heap.size, 3, none⟩ = some (.slice kA b.coms.length kc) ∧ W'.cell? ⟨w.heap.size, 4, none⟩ = some (.slice rA b.revs.length rc) ∧ W'.cell? ⟨w.heap.size, 5, none⟩ = some (.slice (some ⟨g9, o9, none⟩) m oc) ∧ W'.cell? ⟨g9, o9 + k * 4, none⟩ = some (.int .i64 yc) ∧ W'.cell? ⟨g9, o9 + k * 4 + 1, none⟩ = some (.int .i64 yf) ∧ W'.cell? ⟨g9, o9 + k * 4 + 1 + 1, none⟩ = some (.int .u64 (yx : Int)) ∧ W'.cell? ⟨g9, o9 + k * 4 + 1 + 1 + 1, none⟩ = some (.int .u64 (yy : Int)) ∧ W'.cell? ⟨g9, o9 + k * 4 + 2, none⟩ = some (.int .u64 (yx : Int)) ∧ W'.cell? ⟨g9, o9 + k * 4 + 3, none⟩ = some (.int .u64 (yy : Int))) from fun W' h => by
                                obtain ⟨c0, c1, c2, c3, c4, c5⟩ := HCC.out W' (HB.out.trans (h.mono HB.out.size))
                                exact ⟨c0, c1, c2, c3, c4, c5, (h.cell (p := ⟨g9, o9 + k * 4, none⟩) (lt_of_cell hc0)).trans hc0, (h.cell (p := ⟨g9, o9 + k * 4 + 1, none⟩) (lt_of_cell hc1)).trans hc1, (h.cell (p := ⟨g9, o9 + k * 4 + 1 + 1, none⟩) (lt_of_cell hc2)).trans hc2, (h.cell (p := ⟨g9, o9 + k * 4 + 1 + 1 + 1, none⟩) (lt_of_cell hc3)).trans hc3, (h.cell (p := ⟨g9, o9 + k * 4 + 2, none⟩) (lt_of_cell hc2)).trans hc2, (h.cell (p := ⟨g9, o9 + k * 4 + 3, none⟩) (lt_of_cell hc3)).trans hc3⟩)
                              clear hz c0 c1 c2 c3 c4 c5 hc0 hc1 hc2 hc3
                              go_upto_region 23 with fail
                              go_cut [5] (fun s5 W => s5 = .bool z ∧ Hid (Below wc.heap.size wc W))
                              case first =>
                                as_aux_lemma =>
                                  refine anyL_begin (z := 6) (S := fun W9 => Below wc.heap.size wc W9) (by kernel_rfl) (Below.drew (Below.refl _ _)) (fun hHeld => ?_)
                                  refine AnyL.takeD (i := 0) (d := some 156) (v := ?_) rfl rfl (by kernel_rfl) (by kernel_rfl) (fun _ _ _ h => h) (by kernel_rfl) (by kernel_rfl) (by kernel_rfl) (Or.inl ⟨by rfl, ?_⟩) hHeld ?_
                                  rotate_left 1
                                  focus (intro w hSw; (try dsimp only at hSw); obtain ⟨c0, c1, c2, c3, c4, c5, ck0, ck1, ck2, ck3, ck4, ck5⟩ := HC.out w hSw; go_simp; (try with_reducible rfl))
                                  (repeat (first | simp only [Act.put] | simp only [List.setIfInBounds_toArray] | simp only [List.set_cons_zero] | simp only [List.set_cons_succ]))
                                  refine AnyL.takeD (i := 1) (d := some 157) (v := ?_) rfl rfl (by kernel_rfl) (by kernel_rfl) (fun _ _ _ h => h) (by kernel_rfl) (by kernel_rfl) (by kernel_rfl) (Or.inl ⟨by rfl, ?_⟩) hHeld ?_
                                  rotate_left 1
                                  focus (intro w hSw; (try dsimp only at hSw); go_simp; (try with_reducible rfl))
                                  (repeat (first | simp only [Act.put] | simp only [List.setIfInBounds_toArray] | simp only [List.set_cons_zero] | simp only [List.set_cons_succ]))
                                  refine AnyL.takeD (i := 2) (d := some 158) (v := ?_) rfl rfl (by kernel_rfl) (by kernel_rfl) (fun _ _ _ h => h) (by kernel_rfl) (by kernel_rfl) (by kernel_rfl) (Or.inl ⟨by rfl, ?_⟩) hHeld ?_
                                  rotate_left 1
                                  focus (intro w hSw; (try dsimp only at hSw); obtain ⟨c0, c1, c2, c3, c4, c5, ck0, ck1, ck2, ck3, ck4, ck5⟩ := HC.out w hSw; go_simp; (try with_reducible rfl))
                                  (repeat (first | simp only [Act.put] | simp only [List.setIfInBounds_toArray] | simp only [List.set_cons_zero] | simp only [List.set_cons_succ]))
                                  refine AnyL.takeD (i := 3) (d := some 159) (v := ?_) rfl rfl (by kernel_rfl) (by kernel_rfl) (fun _ _ _ h => h) (by kernel_rfl) (by kernel_rfl) (by kernel_rfl) (Or.inl ⟨by rfl, ?_⟩) hHeld ?_
                                  rotate_left 1
                                  focus (intro w hSw; (try dsimp only at hSw); go_simp; (try with_reducible rfl))
                                  (repeat (first | simp only [Act.put] | simp only [List.setIfInBounds_toArray] | simp only [List.set_cons_zero] | simp only [List.set_cons_succ]))
                                  refine AnyL.takeD (i := 4) (d := some 160) (v := ?_) rfl rfl (by kernel_rfl) (by kernel_rfl) (fun _ _ _ h => h) (by kernel_rfl) (by kernel_rfl) (by kernel_rfl) (Or.inl ⟨by rfl, ?_⟩) hHeld ?_
                                  rotate_left 1
                                  focus (intro w hSw; (try dsimp only at hSw); go_simp; (try with_reducible rfl))
                                  (repeat (first | simp only [Act.put] | simp only [List.setIfInBounds_toArray] | simp only [List.set_cons_zero] | simp only [List.set_cons_succ]))
                                  refine AnyL.takeD (i := 5) (d := some 161) (v := ?_) rfl rfl (by kernel_rfl) (by kernel_rfl) (fun _ _ _ h => h) (by kernel_rfl) (by kernel_rfl) (by kernel_rfl) (Or.inl ⟨by rfl, ?_⟩) hHeld ?_
                                  rotate_left 1
                                  focus (intro w hSw; (try dsimp only at hSw); obtain ⟨c0, c1, c2, c3, c4, c5, ck0, ck1, ck2, ck3, ck4, ck5⟩ := HC.out w hSw; go_simp; (try with_reducible rfl))
                                  (repeat (first | simp only [Act.put] | simp only [List.setIfInBounds_toArray] | simp only [List.set_cons_zero] | simp only [List.set_cons_succ]))
                                  have HBa : Hid (Below wc.heap.size wc wc.drew) := Lib.hid (Below.drew (Below.refl _ _))
                                  refine AnyL.one (i := 6) (by kernel_rfl) rfl (fun K hK => ?_)
                                  go_simp
                                  go_at_call 34
                                  refine ((D1.out _ HBa.out).out).mono ?_
                                  rintro e w7 ⟨rfl, hb7⟩
                                  have HB7 := Lib.hid (HBa.out.trans (hb7.mono HBa.out.size))
                                  clear hb7
                                  refine hK.out _ _ (fun h => nomatch (show true = false from h)) (fun _ => ?_)
                                  clear hK K
                                  (repeat (first | simp only [Act.put] | simp only [List.setIfInBounds_toArray] | simp only [List.set_cons_zero] | simp only [List.set_cons_succ]))
                                  refine AnyL.one (i := 7) (by kernel_rfl) rfl (fun K hK => ?_)
                                  go_simp
                                  refine hK.out _ _ (fun h => nomatch (show true = false from h)) (fun _ => ?_)
                                  clear hK K
                                  (repeat (first | simp only [Act.put] | simp only [List.setIfInBounds_toArray] | simp only [List.set_cons_zero] | simp only [List.set_cons_succ]))
                                  refine AnyL.done (by kernel_rfl) ?_
                                  go_wp2_with fail
                                  go_meet
                                  case rel => exact ⟨rfl, HB7⟩
                              case rest =>
                                obtain ⟨rfl, HBc⟩ := hcut
                                have HB2 := Lib.hid (HB.out.trans (HBc.out.mono HB.out.size))
                                go_wp2_with fail
                                go_loopw [5, 11] (fun s5 si wr => ∃ j : Nat, j ≤ k ∧ si = .int .i64 (j : Int) ∧ s5 = .bool (z && dsO b k j) ∧ Hid (Below W1.heap.size W1 wr)) (fun _ si _ => k - (intOf si).toNat)
                                case atStart => exact ⟨0, Nat.zero_le _, rfl, by rw [show dsO b k 0 = true from rfl, Bool.and_true], HB2⟩
                                case round =>
                                  as_aux_lemma =>
                                    clear HB2 HBc HC D1
                                    obtain ⟨j, hj, rfl, rfl, HBj⟩ := hrel
                                    by_cases hjk : j < k
                                    · have hj1 : (j : Int) < (k : Int) := by omega
                                      have hj0 : (0 : Int) ≤ (j : Int) := by omega
                                      have hjm : (j : Int) < (m : Int) := by omega
                                      have HBjw := Lib.hid (HB1.out.trans (HBj.out.mono HB1.out.size))
                                      obtain ⟨c0, c1, c2, c3, c4, c5⟩ := HCC.out wr HBj.out
                                      obtain ⟨A9', c9', e9', -, -, hcells⟩ := HI4.out
                                      obtain ⟨rfl, hmm, rfl⟩ := Value.slice.inj e9'
                                      rw [← hmm] at hcells
                                      clear hmm e9'
                                      obtain ⟨g8, o8, e8, -, hgl, dj0, ej0, -⟩ := Cells.at4 hcells HBjw.out (show j < m by omega)
                                      cases e8
                                      obtain ⟨g7, o7, e7, -, hgl7, dk0, ek0, -⟩ := Cells.at4 hcells HBjw.out hlt
                                      cases e7
                                      obtain ⟨xj, hxj⟩ : ∃ q, q = (opnN b.opns j).club := ⟨_, rfl⟩
                                      obtain ⟨xk, hxk⟩ : ∃ q, q = (opnN b.opns k).club := ⟨_, rfl⟩
                                      obtain ⟨fj, hfj⟩ : ∃ q, q = (opnN b.opns j).frm := ⟨_, rfl⟩
                                      obtain ⟨fk, hfk⟩ : ∃ q, q = (opnN b.opns k).frm := ⟨_, rfl⟩
                                      have dj : wr.cell? ⟨g9, o9 + j * 4, none⟩ = some (.int .i64 xj) := by rw [hxj]; exact dj0
                                      have dk : wr.cell? ⟨g9, o9 + k * 4, none⟩ = some (.int .i64 xk) := by rw [hxk]; exact dk0
                                      have ej : wr.cell? ⟨g9, o9 + j * 4 + 1, none⟩ = some (.int .i64 fj) := by rw [hfj]; exact ej0
                                      have ek : wr.cell? ⟨g9, o9 + k * 4 + 1, none⟩ = some (.int .i64 fk) := by rw [hfk]; exact ek0
                                      obtain ⟨n1, hn1⟩ : ∃ q, q = (xj != xk) := ⟨_, rfl⟩
                                      obtain ⟨n2, hn2⟩ : ∃ q, q = (fj != fk) := ⟨_, rfl⟩
                                      obtain ⟨nz, hnz⟩ : ∃ q, q = (n1 || n2) := ⟨_, rfl⟩
                                      have HNZ := Lib.hid (show nz = (decide ((opnN b.opns j).club ≠ (opnN b.opns k).club) || decide ((opnN b.opns j).frm ≠ (opnN b.opns k).frm)) by
                                        rw [hnz, hn1, hn2, hxj, hxk, hfj, hfk, Bool.eq_iff_iff, Bool.or_eq_true, Bool.or_eq_true, bne_iff_ne, bne_iff_ne, decide_eq_true_eq, decide_eq_true_eq])
                                      have HNY := Lib.hid hnz
                                      have hn1' := hn1.symm
                                      have hn2' := hn2.symm
                                      clear hnz hn1 hn2 hxj hxk hfj hfk hgl hgl7 hcells dj0 dk0 ej0 ek0
                                      obtain ⟨gg, hgg⟩ : ∃ q, q = (z && dsO b k j) := ⟨_, rfl⟩
                                      have HGG := Lib.hid hgg
                                      rw [← hgg]
                                      clear hgg
                                      have HS5 := Lib.hid (show (gg && nz) = (z && dsO b k (j + 1)) by
                                        rw [HGG.out, HNZ.out, Bool.and_assoc]
                                        congr 1
                                        unfold dsO
                                        rw [List.range_succ, List.all_append]
                                        simp)
                                      go_upto_region 27 with fail
                                      rw [HNY.out] at HS5
                                      cases gg <;> cases n1 <;> cases n2 <;> (go_quiet (fail); go_wp2_with fail; go_roundw; (case rel => exact ⟨j + 1, by omega, by go_num, by rw [← HS5.out]; rfl, Lib.hid (below_drewN HBj.out _)⟩); (case measure => simp [intOf]; omega))
                                    · obtain rfl : j = k := by omega
                                      have hj1 : ¬ (j : Int) < (j : Int) := by omega
                                      have HG2 := Lib.hid (show ((z && dsO b j j) = true → G3 b = true ∧ ∀ i, i < j + 1 → okO b i = true) ∧ ((z && dsO b j j) = false → G4 b = false) from by
                                        have e : okO b j = (z && dsO b j j) := by unfold okO; rw [HZ.out]
                                        refine ⟨fun h => ⟨(HG.out.1 (by simp)).1, fun i hi => ?_⟩, fun h => ?_⟩
                                        · rcases Nat.lt_or_ge i j with q1 | q1
                                          · exact (HG.out.1 (by simp)).2 i q1
                                          · rw [show i = j by omega, e]; exact h
                                        · unfold G4
                                          rw [show (List.range b.opns.length).all (okO b) = false from List.all_eq_false.2 ⟨j, List.mem_range.2 HKL.out, by rw [e, h]; simp⟩, Bool.and_false])
                                      clear hjk hj
                                      go_wp2_with fail
                                      go_roundw
                                      case rel => exact ⟨j + 1, by omega, by go_num, _, rfl, HG2, HBj⟩
                                      case measure => simp [intOf]; omega
                            · have hcs : (decide (k < m) && g) = false := by simpa using hc
                              have HGE := Lib.hid (show g = G4 b by
                                cases hg : g with
                                | false => exact (HG.out.2 hg).symm
                                | true =>
                                  rw [hg, Bool.and_true, decide_eq_true_eq] at hc
                                  obtain ⟨q1, q2⟩ := HG.out.1 hg
                                  unfold G4
                                  rw [q1, Bool.true_and]
                                  exact (List.all_eq_true.2 fun i hi => q2 i (by have := List.mem_range.1 hi; have := HM.out; omega)).symm)
                              rw [hcs, HGE.out]
                              clear hcs hc c0 c1 c2 c3 c4 c5 HG HBw HGE
                              rw [HM.out] at HCC HI4 HBE ⊢
                              clear HM hm9 hk
                              obtain ⟨c0, c1, c2, c3, c4, c5⟩ := HCC.out wc HB.out
                              have HQ := Lib.hid (chk_ref b)
                              obtain ⟨g4, hg4⟩ : ∃ q, q = G4 b := ⟨_, rfl⟩
                              rw [← hg4] at HQ ⊢
                              clear hg4
                              cases g4 with
                              | true =>
                                go_wp2_with fail
                                go_ret
                                exact ⟨ret_int (by rw [HQ.out]; rfl), HB1.out.trans (HB.out.mono HB1.out.size)⟩
                              | false =>
                                go_wp2_with fail
                                go_ret
                                exact ⟨ret_int (by rw [HQ.out]; rfl), HB1.out.trans (HB.out.mono HB1.out.size)⟩
end Go.Proofs.YtgaanndidcdbpaaGreat
