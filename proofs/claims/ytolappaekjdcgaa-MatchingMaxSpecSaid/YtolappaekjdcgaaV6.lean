/- The reference's Valid. -/
import Derived.Test.YtolappaekjdcgaaV1
import Derived.Test.YtolappaekjdcgaaV3
import Derived.Test.YtolappaekjdcgaaV5
namespace Go.Proofs.Ytolappaekjdcgaa
open Go.RowKit Go.Shelf Go.Deep
theorem noI_take {m : List Int} {x : Int} {k : Nat} (h : noI m x k) : (m.take k).contains x = false := by
  rw [Bool.eq_false_iff, Ne, List.contains_iff_mem, List.mem_iff_getElem]
  rintro ⟨j, hj, e⟩
  rw [List.length_take] at hj
  rw [List.getElem_take, ← nthI_get] at e
  exact h j (by omega) e
theorem hasI_take {m : List Int} {x : Int} {j k : Nat} (hj : j < m.length) (hk : j < k) (h : nthI m j = x) : (m.take k).contains x = true := by
  rw [List.contains_iff_mem, List.mem_iff_getElem]
  exact ⟨j, by rw [List.length_take]; omega, by rw [List.getElem_take, ← nthI_get]; exact h⟩
set_option maxHeartbeats 4000000 in
theorem refValid_any (w : World) (M M' : Nat → Prop) (v v' : Value) (g : GrD) (m : List Int) (h : IsGraph w M v g) (h' : IsInts w M' v' m) (hm60 : m.length ≤ 1000) : Calls Try.prog 14 #[v, v'] w (RetE (validG g m) w) := by
  have CC := fun W (hb : Below w.heap.size w W) => Lib.hid (refCheck_any W M v g (h.below hb))
  have HI := Lib.hid h'
  obtain ⟨v2, rfl, hed⟩ := h
  have HE := Lib.hid hed
  obtain ⟨A, c, rfl, hl1, hl2, -⟩ := h'
  have HNo := Lib.hid (@validG_no g m)
  have HYes := Lib.hid (@validG_yes g m)
  obtain ⟨z, hz⟩ : ∃ z, z = validG g m := ⟨_, rfl⟩
  rw [← hz] at HNo HYes ⊢
  clear hz hed
  cases hc : chkB g
  · have HZ := Lib.hid (HNo.out (valid_no1 hc))
    rw [chkG_no hc] at CC
    clear hc
    go_enter Try.func14, Try.ntmps14
    go_wp2_with fail
    refine nameW fun W1 hW1 => ?_
    have HB1 : Hid (Below w.heap.size w W1) := by rw [hW1.out]; exact (Below.refl _ _).alloc (Nat.le_refl _) _
    clear hW1
    refine (CC W1 HB1.out).out.mono ?_
    rintro e w2 ⟨rfl, hb2⟩
    have HB2 := Lib.hid (HB1.out.trans (hb2.mono HB1.out.size))
    clear hb2 HB1 CC
    go_wp2_with fail
    go_ret
    exact ⟨ret_int HZ.out.symm, HB2.out⟩
  · obtain ⟨L, R, hg⟩ := gok_of hc
    have HG := Lib.hid hg
    have hr512 := hg.r512
    rw [chkG_yes hc] at CC
    have HNo2 : Hid ((m.length : Int) ≠ (L : Int) → z = 250) := Lib.hid (fun h => HNo.out (valid_no2 (by rw [hg.left]; exact h)))
    have HYes2 : Hid ((m.length : Int) = (L : Int) → okVTo g m m.length → z = 0) := Lib.hid (fun h ha => HYes.out (valid_yes hc (by rw [hg.left]; exact h) ha))
    have HNo3 := Lib.hid (fun i (hi : i < m.length) (h : okV g m i = false) => HNo.out (valid_no3 hi h))
    rw [hg.left] at CC ⊢
    clear hc hg HNo HYes
    go_enter Try.func14, Try.ntmps14
    go_wp2_with fail
    refine nameW fun W1 hW1 => ?_
    have HB1 : Hid (Below w.heap.size w W1) := by rw [hW1.out]; exact (Below.refl _ _).alloc (Nat.le_refl _) _
    have k1 : W1.heap[w.heap.size]? = some (.cells #[.int .i64 (L : Int), .int .i64 g.right, v2] 24 (0, 0)) := by rw [hW1.out, heap_alloc_if, if_pos rfl]
    clear hW1
    refine (CC W1 HB1.out).out.mono ?_
    rintro e w2 ⟨rfl, hb2⟩
    have HB2 := Lib.hid (HB1.out.trans (hb2.mono HB1.out.size))
    have k2 := (hb2.block _ (lt_heap k1)).trans k1
    have hlw := lt_heap k2
    have HK2 := Lib.hid k2
    have c0 : w2.cell? ⟨w.heap.size, 0, none⟩ = some (.int .i64 (L : Int)) := cell_of k2 rfl
    have c2 : w2.cell? ⟨w.heap.size, 2, none⟩ = some v2 := cell_of k2 rfl
    clear hb2 HB1 CC k1 k2
    by_cases hL : m.length = L
    · have hne : ((m.length : Int) != (L : Int)) = false := by simp [hL]
      have hne2 : (m.length : Int) = (L : Int) := by omega
      have HLL := Lib.hid hne2
      have HX2 := HK2
      go_wp2_with fail
      clear c0 c2 HK2 hlw
      go_loopw [5] (fun q wr => ∃ k : Nat, k ≤ m.length ∧ q = .int .i64 (k : Int) ∧ Hid (Below w.heap.size w wr) ∧ Hid (wr.heap[w.heap.size]? = some (.cells #[.int .i64 (L : Int), .int .i64 g.right, v2] 24 (0, 0))) ∧ Hid (okVTo g m k)) (fun q _ => m.length - (intOf q).toNat)
      case atStart => exact ⟨0, Nat.zero_le _, rfl, HB2, HX2, Lib.hid (fun i hi => absurd hi (by omega))⟩
      case round =>
        obtain ⟨k, hk, rfl, HB, HX, HOK⟩ := hrel
        have hbl := lt_heap HX.out
        have c0 : wr.cell? ⟨w.heap.size, 0, none⟩ = some (.int .i64 (L : Int)) := cell_of HX.out rfl
        have c1 : wr.cell? ⟨w.heap.size, 1, none⟩ = some (.int .i64 g.right) := cell_of HX.out rfl
        have c2 : wr.cell? ⟨w.heap.size, 2, none⟩ = some v2 := cell_of HX.out rfl
        by_cases hlt : k < m.length
        · have hlt2 : (k : Int) < (m.length : Int) := by omega
          have hk0 : (0 : Int) ≤ (k : Int) := by omega
          obtain ⟨b, off, rfl, hb, e0⟩ := HI.out.at_ HB.out hlt
          have hbw : b < wr.heap.size := Nat.lt_of_lt_of_le hb HB.out.size
          have HN3 := Lib.hid (HNo3.out k hlt)
          have HOKs := Lib.hid (fun h => okVTo_succ HOK.out (k := k) h)
          have HOV : Hid (okV g m k = ((nthI m k == -1) || (g.edges.contains ((k : Int), nthI m k) && !(m.take k).contains (nthI m k)))) := rfl
          have HTN := Lib.hid (fun x (h : noI m x k) => show (m.take k).contains x = false from noI_take h)
          have HTY := Lib.hid (fun x j (hj : j < k) (h : nthI m j = x) => show (m.take k).contains x = true from hasI_take (by omega) hj h)
          have HXK := Lib.hid (show nthI m k = nthI m k from rfl)
          obtain ⟨x, hx⟩ : ∃ x, x = nthI m k := ⟨_, rfl⟩
          rw [← hx] at e0 HOV
          have HXX := Lib.hid hx
          clear hx HXK
          by_cases hx1 : x = -1
          · have HOKn := Lib.hid (HOKs.out (by rw [HOV.out, hx1]; rfl))
            have ht : (x == -1) = true := by simp [hx1]
            subst hx1
            go_wp2_with fail
            go_roundw
            case rel => exact ⟨k + 1, by omega, by go_num, HB, HX, HOKn⟩
            case measure => simp [intOf]; omega
          · have ht : (x == -1) = false := by simpa using hx1
            have CH := fun W (hb : Below w.heap.size w W) => Lib.hid (has_any W M (.agg #[.int .i64 (L : Int), .int .i64 g.right, v2]) g ⟨v2, by rw [HG.out.left], IsSl.below HE.out hb⟩ (k : Int) x)
            have HOV2 : Hid (okV g m k = (g.edges.contains ((k : Int), x) && !(m.take k).contains x)) := Lib.hid (by rw [HOV.out, ht, Bool.false_or])
            clear HOV hx1
            obtain ⟨z2, hz2⟩ : ∃ z2, z2 = g.edges.contains ((k : Int), x) := ⟨_, rfl⟩
            rw [← hz2] at CH HOV2
            clear hz2
            go_upto_region 7 with fail
            go_cut [35] (fun c W => c = .bool (!z2) ∧ Hid (Below wr.heap.size wr W))
            case first =>
              go_region_held3 (fun w' => w'.cell? ⟨w.heap.size, 0, none⟩ = some (.int .i64 (L : Int)) ∧ w'.cell? ⟨w.heap.size, 1, none⟩ = some (.int .i64 g.right) ∧ w'.cell? ⟨w.heap.size, 2, none⟩ = some v2 ∧ w'.cell? ⟨b, off + k, none⟩ = some (.int .i64 x)) (first | with_reducible exact ⟨c0, c1, c2, e0⟩ | with_reducible exact ⟨s0, s1, s2, s3⟩ | go_keep) ((go_at_call 27; refine (CH _ (HB.out.trans (Below.mono (by repeat (first | with_reducible exact Below.refl _ _ | (with_reducible refine Below.drew ?_))) HB.out.size))).out.mono ?_; rintro e w9 ⟨rfl, hb9⟩; have HB9 : Hid (Below wr.heap.size wr w9) := Below.trans (by repeat (first | with_reducible exact Below.refl _ _ | (with_reducible refine Below.drew ?_))) hb9; have s0 := (HB9.out.cell (p := ⟨w.heap.size, 0, none⟩) hbl).trans c0; have s1 := (HB9.out.cell (p := ⟨w.heap.size, 1, none⟩) hbl).trans c1; have s2 := (HB9.out.cell (p := ⟨w.heap.size, 2, none⟩) hbl).trans c2; have s3 := (HB9.out.cell (p := ⟨b, off + k, none⟩) hbw).trans e0; clear hb9))
              all_goals
                go_wp2_with fail
                go_meet
                case rel => exact ⟨rfl, by repeat (first | with_reducible exact HB9 | (with_reducible refine Below.drew ?_))⟩
            case rest =>
              obtain ⟨rfl, HW⟩ := hcut
              have HBW := Lib.hid (HB.out.trans (HW.out.mono HB.out.size))
              have HXW := Lib.hid ((HW.out.block _ hbl).trans HX.out)
              clear c0 c1 c2 CH HB HX
              cases z2
              · have HZ := Lib.hid (HN3.out (by rw [HOV2.out]; rfl))
                go_wp2_with fail
                go_ret
                exact ⟨ret_int HZ.out.symm, HBW.out⟩
              · go_wp2_with fail
                go_loopw [6] (fun q wx => ∃ j : Nat, j ≤ k ∧ q = .int .i64 (j : Int) ∧ Hid (noI m x j) ∧ Hid (∃ n, wx = wc.drewN n)) (fun q _ => k - (intOf q).toNat)
                case atStart => exact ⟨0, Nat.zero_le _, rfl, Lib.hid (fun i hi => absurd hi (by omega)), Lib.hid ⟨0, rfl⟩⟩
                case round =>
                  obtain ⟨j, hj, rfl, HNJ, HDJ⟩ := hrel
                  have hBd : Below wc.heap.size wc wr := by obtain ⟨q, e⟩ := HDJ.out; rw [e]; exact below_drewN (Below.refl _ _) _
                  have HDn : Hid (∀ n, ∃ q, wr.drewN n = wc.drewN q) := Lib.hid fun n => by obtain ⟨q, e⟩ := HDJ.out; exact ⟨q + n, by rw [e, World.drewN_drewN]⟩
                  have HBX := Lib.hid (HBW.out.trans (hBd.mono HBW.out.size))
                  by_cases hjk : j < k
                  · have hjk2 : (j : Int) < (k : Int) := by omega
                    have hj0 : (0 : Int) ≤ (j : Int) := by omega
                    have hjm : j < m.length := by omega
                    have hjm2 : (j : Int) < (m.length : Int) := by omega
                    obtain ⟨b2, off2, e2, -, e0⟩ := HI.out.at_ HBX.out hlt
                    cases e2
                    obtain ⟨b2, off2, e2, -, e1⟩ := HI.out.at_ HBX.out hjm
                    cases e2
                    rw [← HXX.out] at e0
                    have HNs := Lib.hid (fun h => noI_succ HNJ.out (k := j) h)
                    have HTj := Lib.hid (fun h => HTY.out x j hjk h)
                    obtain ⟨y, hy⟩ : ∃ y, y = nthI m j := ⟨_, rfl⟩
                    rw [← hy] at e1 HNs HTj
                    clear hy hBd
                    by_cases hyx : y = x
                    · have HZ := Lib.hid (HN3.out (by rw [HOV2.out, HTj.out hyx]; rfl))
                      have ht2 : (y == x) = true := by simp [hyx]
                      clear hyx
                      go_wp2_with fail
                      go_quiet (fail)
                      go_wp2_with fail
                      go_ret
                      exact ⟨ret_int HZ.out.symm, below_drewN HBX.out _⟩
                    · have HZ := Lib.hid (HNs.out hyx)
                      have ht2 : (y == x) = false := by simpa using hyx
                      clear hyx
                      go_wp2_with fail
                      go_quiet (fail)
                      go_wp2_with fail
                      go_roundw
                      case rel => exact ⟨j + 1, by omega, by go_num, HZ, Lib.hid (HDn.out _)⟩
                      case measure => simp [intOf]; omega
                  · have hjn : ¬ (j : Int) < (k : Int) := by omega
                    obtain rfl : k = j := by omega
                    have HOKn := Lib.hid (HOKs.out (by rw [HOV2.out, HTN.out x HNJ.out]; rfl))
                    have HXW2 := Lib.hid ((hBd.block _ (lt_heap HXW.out)).trans HXW.out)
                    clear hBd
                    go_wp2_with fail
                    exact ⟨⟨k + 1, by omega, by go_num, HBX, HXW2, HOKn⟩, by simp [intOf]; omega⟩
        · have hnl : ¬ (k : Int) < (m.length : Int) := by omega
          obtain rfl : m.length = k := by omega
          have HZ := Lib.hid (HYes2.out HLL.out HOK.out)
          go_wp2_with fail
          go_ret
          exact ⟨ret_int HZ.out.symm, HB.out⟩
    · have HZ := Lib.hid (HNo2.out (by omega))
      have hne : ((m.length : Int) != (L : Int)) = true := by simp; omega
      have hne2 : ¬ (m.length : Int) = (L : Int) := by omega
      go_wp2_with fail
      go_ret
      exact ⟨ret_int HZ.out.symm, HB2.out⟩
end Go.Proofs.Ytolappaekjdcgaa
