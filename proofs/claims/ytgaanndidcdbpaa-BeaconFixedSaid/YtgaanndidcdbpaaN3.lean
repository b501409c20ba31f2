/- The law BeaconFixed. -/
import Derived.Test.YtgaanndidcdbpaaZM
import Derived.BigQuiet
namespace Go.Proofs.Ytgaanndidcdbpaa
open Go.RowKit Go.Shelf

set_option maxRecDepth 100000 in
set_option maxHeartbeats 8000000 in
theorem law3 (w : World) (M M' M'' : Nat → Prop) (v u vs : Value) (cl : List Int) (t : Int) (of : Nat) (ps : List (List Nat)) (ss : List (Nat × Nat)) (ha : IsInts w M v cl) (hp : IsPol w M' u ps) (hw : ∀ i, i < cl.length → W64 (nthI cl i)) (hu : ∀ i, i < ps.length → U64s (polN ps i)) (hss : IsSteps w M'' vs ss) (h8 : ∀ i, i < ss.length → (ss.getD i (0, 0)).1 < 256 ∧ (ss.getD i (0, 0)).2 < 256) :
    Calls Try.prog 3 #[v, .int .i64 t, .int .u64 (of : Int), u, vs] w (RetT true w) := by
  have HA := Lib.hid ha
  have HP := Lib.hid hp
  have HU := Lib.hid hu
  have HWW := Lib.hid hw
  obtain ⟨aA, ac, rfl, -⟩ := ha
  obtain ⟨bA, bc, rfl, -, hbc⟩ := hp.len
  obtain ⟨n, hn⟩ : ∃ n, n = cl.length := ⟨_, rfl⟩
  have HN := Lib.hid hn
  obtain ⟨m, hm⟩ : ∃ m, m = ps.length := ⟨_, rfl⟩
  have HM := Lib.hid hm
  rw [← hn] at HA ⊢
  rw [← hm] at HP ⊢
  clear hp hw hu hbc hn hm
  have HSS := Lib.hid hss
  have H8 := Lib.hid h8
  obtain ⟨sA, sc, rfl, -⟩ := hss
  clear h8
  obtain ⟨l, hl⟩ : ∃ l, l = ss.length := ⟨_, rfl⟩
  have HL := Lib.hid hl
  rw [← hl] at HSS ⊢
  clear hl
  go_enter Try.func3, Try.ntmps3
  go_wp2_with fail
  refine (sane_any w).mono ?_
  rintro e W2 ⟨rfl, hb⟩
  have HB := Lib.hid hb
  clear hb
  go_wp2_with fail
  refine (few_any _ _ _ _ _ cl ps (IsSl.below HA.out HB.out) (HP.out.below HB.out) sA l sc).mono ?_
  rintro e W3 ⟨rfl, hb⟩
  have HBn := Lib.hid (HB.out.trans (hb.mono HB.out.size))
  have HB3 := HBn
  clear hb HB HBn
  obtain ⟨zf, hzf⟩ : ∃ z, z = fewD cl ps l := ⟨_, rfl⟩
  have HZF := Lib.hid hzf
  rw [← hzf]
  clear hzf
  by_cases hf : zf = true
  case neg =>
    rw [show zf = false by simpa using hf]
    clear hf
    go_wp2_with fail
    go_ret
    exact ⟨rfl, HB3.out⟩
  have HFL := Lib.hid (fewD_len (HZF.out.symm.trans hf))
  rw [hf]
  clear hf
  go_wp2_with fail
  refine (start_any _ _ _ _ _ cl t of ps (IsSl.below HA.out HB3.out) (HP.out.below HB3.out) HWW.out HU.out).mono ?_
  rintro e W4 ⟨bv, rfl, ⟨y0, y1, y2, y3, y4, y5, y6, y7, y8, y9, y10, y11, y12, y13, rfl⟩, hbv, hb⟩
  obtain ⟨ok, hok⟩ : ∃ z, z = startB cl t of ps := ⟨_, rfl⟩
  have HOK := Lib.hid hok
  have HBV := Lib.hid hbv
  rw [← hok] at HBV ⊢
  rw [← HN.out] at HBV
  have HB4 := Lib.hid (HB3.out.trans (hb.mono HB3.out.size))
  have HS4 := Lib.hid hb.size
  clear hb hbv hok
  go_upto_region 6 with fail
  refine nameC fun W5 hW5 => ?_
  have hb5 : Below W4.heap.size W4 W5 := by rw [hW5.out]; exact (Below.refl _ _).alloc (Nat.le_refl _) _
  obtain ⟨g, hg⟩ : ∃ g, g = W4.heap.size := ⟨_, rfl⟩
  have k5 : W5.heap[g]? = some (.cells #[.slice y0 y1 y2, .int .i64 y3, .int .u64 y4, .slice y5 y6 y7, .slice y8 y9 y10, .slice y11 y12 y13] 32 (0, 0)) := by rw [hW5.out, hg]; exact heap_alloc_new _ _
  have HB5 := Lib.hid (HB4.out.trans (hb5.mono HB4.out.size))
  have HGL : Hid (w.heap.size ≤ g) := Lib.hid (by rw [hg]; exact HB4.out.size)
  have HX5 := Lib.hid (show ok = true → BoxN W5 g (stB cl t of ps n) from fun h => ⟨y0, y1, y2, y3, y4, y5, y6, y7, y8, y9, y10, y11, y12, y13, k5, IsBea.below (IsBea.mono (HBV.out h) (fun q hq _ => by show q ≠ g; omega)) hb5⟩)
  rw [← hg]
  clear hW5 hb5 k5 hg HBV HB4 HS4
  by_cases hok : ok = true
  case neg =>
    rw [show ok = false by simpa using hok]
    clear hok
    go_wp2_with fail
    go_ret
    exact ⟨rfl, HB5.out⟩
  have HST := Lib.hid (St.of (HOK.out.symm.trans hok))
  have HBX := Lib.hid (HX5.out hok)
  have HML : Hid (m = n) := Lib.hid (by rw [HM.out, HN.out]; exact HST.out.len)
  have HOV := Lib.hid (Ov.start HST.out)
  rw [← HN.out] at HOV
  rw [hok]
  clear hok HX5 HB3
  have hr1 : 1 ≤ of := HST.out.new.o1
  have HR2 : Hid (of ≤ 1152921504606846976) := Lib.hid HST.out.new.o60
  have hr0 : (of : Int) ≠ 0 := by omega
  have e0 : ((of : Int) == 0) = false := by rw [beq_eq_false_iff_ne]; exact hr0
  have HWL : Hid (∀ k, wantTo of ps k < of) := Lib.hid (wantTo_lt hr1)
  have HWS : Hid (∀ k, wantTo of ps (k + 1) = (wantTo of ps k + p0 ps k % of) % of) := Lib.hid (fun _ => rfl)
  have hm4 : m ≤ 4 := by rw [HM.out]; exact HFL.out.2.1
  have hn4 : n ≤ 4 := by rw [HN.out]; exact HFL.out.1
  have hl14 : l ≤ 14 := HFL.out.2.2
  go_wp2_with fail
  go_loopw [13, 46] (fun s13 s46 wr => ∃ k : Nat, k ≤ m ∧ s46 = .int .i64 (k : Int) ∧ s13 = .int .u64 ((wantTo of ps k : Nat) : Int) ∧ Hid (Below W5.heap.size W5 wr)) (fun _ s46 _ => m - (intOf s46).toNat)
  case atStart => exact ⟨0, Nat.zero_le _, rfl, rfl, Lib.hid (Below.refl _ _)⟩
  case round =>
    obtain ⟨k, hk, rfl, rfl, HB⟩ := hrel
    by_cases hlt : k < m
    · have hk1 : (k : Int) < (m : Int) := by omega
      have hk0 : (0 : Int) ≤ (k : Int) := by omega
      obtain ⟨b1, o1, vA, vc, rfl, hb1, hc1, hkv⟩ := HP.out.at_ (HB5.out.trans (HB.out.mono HB5.out.size)) (show k < ps.length by rw [← HM.out]; exact hlt)
      have hp1 : 0 < (polN ps k).length := pol_ne HST.out (by rw [← HN.out, ← HML.out]; exact hlt)
      obtain ⟨b3, o3, rfl, hb3, hc3⟩ := IsU64.at_ hkv (Below.refl _ _) hp1
      rw [show (polN ps k)[0] = p0 ps k by unfold p0; rw [List.getD_eq_getElem?_getD, List.getElem?_eq_getElem hp1]; rfl] at hc3
      rw [Nat.add_zero] at hc3
      have HX := Lib.hid (HWS.out k)
      obtain ⟨nx, hnx⟩ : ∃ z, z = p0 ps k := ⟨_, rfl⟩
      obtain ⟨ln, hln⟩ : ∃ z, z = (polN ps k).length := ⟨_, rfl⟩
      rw [← hnx] at hc3 HX
      rw [← hln] at hc1 hp1
      obtain ⟨q, hq⟩ : ∃ q, q = wantTo of ps k := ⟨_, rfl⟩
      have hql : q < of := by rw [hq]; exact HWL.out k
      rw [← hq] at HX ⊢
      have HSW := Lib.hid (sum_wrap (nx := nx) hql HR2.out)
      have hl0 : (0 : Int) < (ln : Int) := by omega
      clear hb1 hkv hb3 hnx hln hq e0
      go_wp2_with fail
      go_roundw
      case rel => exact ⟨k + 1, by omega, by go_num, by rw [HX.out, HSW.out], HB⟩
      case measure => simp [intOf]; omega
    · obtain rfl : k = m := by omega
      have hk1 : ¬ (k : Int) < (k : Int) := by omega
      have HBX6 := Lib.hid (BoxN.below HBX.out HB.out)
      have HB6 := Lib.hid (HB5.out.trans (HB.out.mono HB5.out.size))
      obtain ⟨wa, hwa⟩ : ∃ z, z = wantTo of ps k := ⟨_, rfl⟩
      have HWA : Hid (wa = wantTo of ps cl.length) := Lib.hid (by rw [hwa, HML.out, HN.out])
      rw [← hwa]
      clear hwa e0 HB HBX HB5 hk1 hlt hk
      have hn1 : 1 ≤ n := by rw [HN.out]; exact Nat.le_trans (by decide) HST.out.new.n2
      have HPN := Lib.hid (show ∀ i, i < ps.length → 1 ≤ (polN ps i).length from fun i hi => pol_ne HST.out (by rw [← HST.out.len]; exact hi))
      have HWR : Hid (w.heap.size ≤ g) := HGL
      go_wp2_with fail
      go_loopw [62] (fun s62 wr => ∃ k : Nat, k ≤ l ∧ s62 = .int .i64 (k : Int) ∧ ∃ b, Hid (Ov cl t of ps b) ∧ Hid (BoxN wr g b) ∧ Hid (Below w.heap.size w wr)) (fun s62 _ => l - (intOf s62).toNat)
      case atStart => exact ⟨0, Nat.zero_le _, rfl, _, HOV, HBX6, HB6⟩
      case round =>
        clear HOV HBX6 HB6
        obtain ⟨k, hk, rfl, b, HOV, HBX, HB⟩ := hrel
        by_cases hlt : k < l
        · have hk1 : (k : Int) < (l : Int) := by omega
          have hk0 : (0 : Int) ≤ (k : Int) := by omega
          obtain ⟨bs, os, rfl, hbs, d0, d1⟩ := IsSteps.at_ HSS.out HB.out (show k < ss.length by rw [← HL.out]; exact hlt)
          have h8 := H8.out k (by rw [← HL.out]; exact hlt)
          obtain ⟨s1, hs1⟩ : ∃ z, z = (ss.getD k (0, 0)).1 := ⟨_, rfl⟩
          obtain ⟨s2, hs2⟩ : ∃ z, z = (ss.getD k (0, 0)).2 := ⟨_, rfl⟩
          rw [← hs1] at d0 h8
          rw [← hs2] at d1 h8
          have H8K := Lib.hid h8
          clear hs1 hs2 h8 hbs
          have HSM := Lib.hid (HOV.out.small HST.out HWW.out)
          clear hk
          go_upto_region 17 with fail
          refine nameC fun W8 hW8 => ?_
          have hb8 : Below wr.heap.size wr W8 := by rw [hW8.out]; exact (Below.refl _ _).alloc (Nat.le_refl _) _
          have kst : W8.heap[wr.heap.size]? = some (.cells #[.int .u8 (s1 : Int), .int .u8 (s2 : Int)] 37 (0, 0)) := by rw [hW8.out]; exact heap_alloc_new _ _
          have e0 := cell_of (j := 0) kst rfl
          have e1 := cell_of (j := 1) kst rfl
          have HBW := Lib.hid (HB.out.trans (hb8.mono HB.out.size))
          have HBX8 := Lib.hid (BoxN.below HBX.out hb8)
          clear hW8 hb8 d0 d1 kst
          obtain ⟨y0, y1, y2, y3, y4, y5, y6, y7, y8, y9, y10, y11, y12, y13, hk, hbe8⟩ := HBX8.out
          obtain ⟨⟨c0, c1, c2, c3, c4, c5⟩, ⟨f0, f1, f2, f3, f4, f5⟩⟩ := blk6 hk
          clear hk
          go_wp2_with fail
          clear e0 e1 c0 c1 c2 c3 c4 c5 f0 f1 f2 f3 f4 f5
          refine (play_any W8 (fun q => q ≠ g) _ _ _ _ _ b cl ps s1 s2 hbe8 HSM.out (IsSl.below HA.out HBW.out) (HP.out.below HBW.out) HWW.out HU.out (by rw [← HN.out]; exact ⟨hn1, by omega⟩) (by rw [← HM.out, ← HN.out, HML.out]) HPN.out H8K.out.1 H8K.out.2).mono ?_
          rintro e w4 ⟨bv, rfl, hbv, hb⟩
          have hpl := HOV.out.play HST.out (c := s1 % cl.length) (f := s2 % cl.length) (Nat.mod_lt _ (by rw [← HN.out]; exact hn1)) (Nat.mod_lt _ (by rw [← HN.out]; exact hn1))
          obtain ⟨x0, x1, x2, x3, x4, x5, x6, x7, x8, x9, x10, x11, x12, x13, hk, -⟩ := BoxN.below HBX8.out hb
          obtain ⟨⟨c0, c1, c2, c3, c4, c5⟩, ⟨f0, f1, f2, f3, f4, f5⟩⟩ := blk6 hk
          clear hk
          obtain ⟨b2, hb2⟩ : ∃ z, z = (playD b cl ps s1 s2).1 := ⟨_, rfl⟩
          have HOV2 := Lib.hid (show Ov cl t of ps b2 by rw [hb2]; exact hpl.1)
          rw [show (playD b cl ps s1 s2).2 = true from hpl.2]
          rw [← hb2] at hbv
          clear hb2 hpl
          obtain ⟨z0, z1, z2, z3, z4, z5, z6, z7, z8, z9, z10, z11, z12, z13, rfl⟩ := hbv.shape
          go_upto_region 18 with fail
          refine nameC fun W9 hW9 => ?_
          have hw9 : W9 = w6 w4 g (.slice z0 z1 z2) (.int .i64 z3) (.int .u64 z4) (.slice z5 z6 z7) (.slice z8 z9 z10) (.slice z11 z12 z13) := hW9.out
          have HBX9 := Lib.hid (show BoxN W9 g b2 by rw [hw9]; exact BoxN.set (w := W8) HBX8.out hb hbv)
          have HB9 : Hid (Below w.heap.size w W9) := Lib.hid (by rw [hw9]; exact w6_below (HBW.out.trans (hb.mono HBW.out.size)) HGL.out _ _ _ _ _ _)
          have HSM2 := Lib.hid (HOV2.out.small HST.out HWW.out)
          clear hbe8 hw9 hW9 hb hbv c0 c1 c2 c3 c4 c5 f0 f1 f2 f3 f4 f5 HBX8 HBW HOV HBX HB HSM
          obtain ⟨x0, x1, x2, x3, x4, x5, x6, x7, x8, x9, x10, x11, x12, x13, hk, hbe9⟩ := HBX9.out
          obtain ⟨⟨c0, c1, c2, c3, c4, c5⟩, ⟨f0, f1, f2, f3, f4, f5⟩⟩ := blk6 hk
          clear hk
          go_wp2_with fail
          refine (number2_any W9 _ _ b2 hbe9 HSM2.out).mono ?_
          rintro e w10 ⟨rfl, hb10⟩
          have HB10 := Lib.hid (HB9.out.trans (hb10.mono HB9.out.size))
          have HBX10 := Lib.hid (BoxN.below HBX9.out hb10)
          rw [HOV2.out.numD_eq HST.out, ← HWA.out]
          clear hb10 hbe9 c0 c1 c2 c3 c4 c5 f0 f1 f2 f3 f4 f5
          have tw : ((wa : Int) != (wa : Int)) = false := by simp
          by_cases hmi : 0 < (missL b2 b2.clubs.length).length
          · rw [if_pos hmi]
            clear hmi
            go_wp2_with fail
            go_roundw
            case rel => exact ⟨k + 1, by omega, by go_num, b2, HOV2, HBX10, HB10⟩
            case measure => simp [intOf]; omega
          · rw [if_neg hmi]
            clear hmi
            go_wp2_with fail
            go_roundw
            case rel => exact ⟨k + 1, by omega, by go_num, b2, HOV2, HBX10, HB10⟩
            case measure => simp [intOf]; omega
        · obtain rfl : k = l := by omega
          have hk1 : ¬ (k : Int) < (k : Int) := by omega
          clear hlt hk
          go_wp2_with fail
          go_loopw [95] (fun s95 wr => ∃ k : Nat, k ≤ n ∧ s95 = .int .i64 (k : Int) ∧ ∃ b, Hid (Ov cl t of ps b ∧ ∀ j, j < k → hasR b (nthI cl j) = true) ∧ Hid (BoxN wr g b) ∧ Hid (Below w.heap.size w wr)) (fun s95 _ => n - (intOf s95).toNat)
          case atStart => exact ⟨0, Nat.zero_le _, rfl, _, Lib.hid ⟨HOV.out, fun j hj => absurd hj (by omega)⟩, HBX, HB⟩
          case round =>
            clear HOV HBX HB hk1
            obtain ⟨i, hi, rfl, b, HOR, HBX, HB⟩ := hrel
            have HOV := Lib.hid HOR.out.1
            have HSM := Lib.hid (HOV.out.small HST.out HWW.out)
            by_cases hlt : i < n
            · have hi1 : (i : Int) < (n : Int) := by omega
              have hi0 : (0 : Int) ≤ (i : Int) := by omega
              have hu8 : IntKind.u8.wrap (i : Int) = (i : Int) := by
                simp [IntKind.wrap, IntKind.signed, IntKind.bits]; omega
              obtain ⟨y0, y1, y2, y3, y4, y5, y6, y7, y8, y9, y10, y11, y12, y13, hk, hbe⟩ := HBX.out
              obtain ⟨⟨c0, c1, c2, c3, c4, c5⟩, ⟨f0, f1, f2, f3, f4, f5⟩⟩ := blk6 hk
              clear hk
              go_wp2_with fail
              refine (play_any _ (fun q => q ≠ g) _ _ _ _ _ b cl ps i i hbe HSM.out (IsSl.below HA.out HB.out) (HP.out.below HB.out) HWW.out HU.out (by rw [← HN.out]; exact ⟨hn1, by omega⟩) (by rw [← HM.out, ← HN.out, HML.out]) HPN.out (by omega) (by omega)).mono ?_
              rintro e w4 ⟨bv, rfl, hbv, hb⟩
              have hin : i % cl.length = i := Nat.mod_eq_of_lt (by rw [← HN.out]; exact hlt)
              have hpl := HOV.out.play HST.out (c := i % cl.length) (f := i % cl.length) (by rw [hin, ← HN.out]; exact hlt) (by rw [hin, ← HN.out]; exact hlt)
              have HRV := Lib.hid (show ∀ j, j < i + 1 → hasR (playD b cl ps i i).1 (nthI cl j) = true from fun j hj => by
                have := HOV.out.play_has HST.out (c := i) (f := i) (by rw [← HN.out]; exact hlt) (by rw [← HN.out]; exact hlt) (nthI cl j)
                unfold playD
                rw [hin, this]
                rcases Nat.lt_or_ge j i with h1 | h1
                · rw [HOR.out.2 j h1]; rfl
                · rw [show j = i by omega]; simp)
              clear hin
              clear c0 c1 c2 c3 c4 c5 f0 f1 f2 f3 f4 f5
              obtain ⟨x0, x1, x2, x3, x4, x5, x6, x7, x8, x9, x10, x11, x12, x13, hk, -⟩ := BoxN.below HBX.out hb
              obtain ⟨⟨c0, c1, c2, c3, c4, c5⟩, ⟨f0, f1, f2, f3, f4, f5⟩⟩ := blk6 hk
              clear hk
              obtain ⟨b2, hb2⟩ : ∃ z, z = (playD b cl ps i i).1 := ⟨_, rfl⟩
              have HOV2 := Lib.hid (show Ov cl t of ps b2 by rw [hb2]; exact hpl.1)
              rw [show (playD b cl ps i i).2 = true from hpl.2]
              rw [← hb2] at hbv HRV
              clear hb2 hpl
              obtain ⟨z0, z1, z2, z3, z4, z5, z6, z7, z8, z9, z10, z11, z12, z13, rfl⟩ := hbv.shape
              go_upto_region 28 with fail
              clear hbe
              refine nameC fun W9 hW9 => ?_
              have hw9 : W9 = w6 w4 g (.slice z0 z1 z2) (.int .i64 z3) (.int .u64 z4) (.slice z5 z6 z7) (.slice z8 z9 z10) (.slice z11 z12 z13) := hW9.out
              have HBX9 := Lib.hid (show BoxN W9 g b2 by rw [hw9]; exact BoxN.set (w := _) HBX.out hb hbv)
              have HB9 : Hid (Below w.heap.size w W9) := Lib.hid (by rw [hw9]; exact w6_below (HB.out.trans (hb.mono HB.out.size)) HGL.out _ _ _ _ _ _)
              have HSM2 := Lib.hid (HOV2.out.small HST.out HWW.out)
              clear hw9 hW9 hb hbv c0 c1 c2 c3 c4 c5 f0 f1 f2 f3 f4 f5 HOV HBX HB HSM HOR
              go_wp2_with fail
              go_roundw
              case rel => exact ⟨i + 1, by omega, by go_num, b2, Lib.hid ⟨HOV2.out, HRV.out⟩, HBX9, HB9⟩
              case measure => simp [intOf]; omega
            · obtain rfl : i = n := by omega
              have hi1 : ¬ (i : Int) < (i : Int) := by omega
              obtain ⟨y0, y1, y2, y3, y4, y5, y6, y7, y8, y9, y10, y11, y12, y13, hk, hbe⟩ := HBX.out
              obtain ⟨⟨c0, c1, c2, c3, c4, c5⟩, ⟨f0, f1, f2, f3, f4, f5⟩⟩ := blk6 hk
              clear hk
              go_wp2_with fail
              refine (number2_any _ _ _ b hbe HSM.out).mono ?_
              rintro e w10 ⟨rfl, hb10⟩
              have HB10 := Lib.hid (HB.out.trans (hb10.mono HB.out.size))
              have hml : missL b b.clubs.length = [] := missL_known fun c hc => by
                have hc' : c < cl.length := by rw [HOV.out.kl] at hc; exact hc
                rw [HOV.out.kl]
                exact hasR_known HOV.out.chk (HOR.out.2 c (by rw [HN.out]; exact hc'))
              rw [HOV.out.numD_eq HST.out, hml, ← HWA.out, if_neg (by simp)]
              have tw : ((wa : Int) == (wa : Int)) = true := by simp
              clear hml hb10 hbe
              go_wp2_with fail
              go_ret
              exact ⟨rfl, HB10.out⟩
end Go.Proofs.Ytgaanndidcdbpaa
