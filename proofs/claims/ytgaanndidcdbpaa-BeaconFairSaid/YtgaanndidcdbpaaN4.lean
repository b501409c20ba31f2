/- The law BeaconFair. -/
import Derived.Test.YtgaanndidcdbpaaZM
import Derived.Test.YtgaanndidcdbpaaZI
import Derived.BigQuiet
namespace Go.Proofs.Ytgaanndidcdbpaa
open Go.RowKit Go.Shelf

set_option maxRecDepth 100000 in
set_option maxHeartbeats 8000000 in
theorem law4 (w : World) (M M' : Nat → Prop) (v u : Value) (cl : List Int) (t : Int) (of : Nat) (ps : List (List Nat)) (sl : Nat) (ha : IsInts w M v cl) (hp : IsPol w M' u ps) (hw : ∀ i, i < cl.length → W64 (nthI cl i)) (hu : ∀ i, i < ps.length → U64s (polN ps i)) (hpl : ∀ i, i < ps.length → (polN ps i).length ≤ 140737488355328) (hof : of < 256) (hsl : sl < 256) :
    Calls Try.prog 4 #[v, .int .i64 t, .int .u8 (of : Int), u, .int .u8 (sl : Int)] w (RetT true w) := by
  have HA := Lib.hid ha
  have HP := Lib.hid hp
  have HU := Lib.hid hu
  have HWW := Lib.hid hw
  obtain ⟨aA, ac, rfl, -⟩ := ha
  obtain ⟨bA, bc, rfl, -, hbc⟩ := hp.len
  obtain ⟨n, hn⟩ : ∃ n, n = cl.length := ⟨_, rfl⟩
  have HN := Lib.hid hn
  obtain ⟨m, hm⟩ : ∃ m, m = ps.length := ⟨_, rfl⟩
  have HM := Lib.hid hm
  rw [← hn] at HA ⊢
  rw [← hm] at HP ⊢
  clear hp hw hu hbc hn hm
  have hmk : ∀ W, (Instr.makeMap 43 none).run Try.prog W = .ok (.map (some W.heap.size)) (W.alloc (.map #[] 0)) := fun W => rfl
  go_enter Try.func4, Try.ntmps4
  go_wp2_with fail
  refine (sane_any w).mono ?_
  rintro e W2 ⟨rfl, hb⟩
  have HB := Lib.hid hb
  clear hb
  go_wp2_with fail
  refine (few_any _ _ _ _ _ cl ps (IsSl.below HA.out HB.out) (HP.out.below HB.out) none 0 0).mono ?_
  rintro e W3 ⟨rfl, hb⟩
  have HBn := Lib.hid (HB.out.trans (hb.mono HB.out.size))
  have HB3 := HBn
  clear hb HB HBn
  obtain ⟨zf, hzf⟩ : ∃ z, z = fewD cl ps 0 := ⟨_, rfl⟩
  have HZF := Lib.hid hzf
  rw [← hzf]
  clear hzf
  by_cases hf : zf = true
  case neg =>
    rw [show zf = false by simpa using hf]
    clear hf
    go_wp2_with fail
    go_ret
    exact ⟨rfl, HB3.out⟩
  have HFL := Lib.hid (fewD_len (HZF.out.symm.trans hf))
  have HZT := Lib.hid hf
  rw [hf]
  clear hf
  by_cases o1 : of < 1
  case pos =>
    have q1 : (of : Int) < 1 := by omega
    clear o1
    go_wp2_with fail
    go_ret
    exact ⟨rfl, HB3.out⟩
  have q1 : ¬ (of : Int) < 1 := by omega
  by_cases o2 : 6 < of
  case pos =>
    have q2 : (6 : Int) < (of : Int) := by omega
    clear o2
    go_wp2_with fail
    go_ret
    exact ⟨rfl, HB3.out⟩
  have q2 : ¬ (6 : Int) < (of : Int) := by omega
  by_cases hn0 : n = 0
  case pos =>
    have e0 : ((n : Int) == 0) = true := by simp [hn0]
    clear hn0
    go_wp2_with fail
    go_ret
    exact ⟨rfl, HB3.out⟩
  have e0 : ((n : Int) == 0) = false := by simp [hn0]
  have hnz : (n : Int) ≠ 0 := by omega
  by_cases hmn : m = n
  case neg =>
    have q3 : ((m : Int) != (n : Int)) = true := by rw [bne_iff_ne]; omega
    clear hmn
    go_wp2_with fail
    go_ret
    exact ⟨rfl, HB3.out⟩
  have q3 : ((m : Int) != (n : Int)) = false := by rw [bne_eq_false_iff_eq]; omega
  have HML := Lib.hid hmn
  have hn1 : 1 ≤ n := by omega
  have hn4 : n ≤ 4 := by rw [HN.out]; exact HFL.out.1
  have hm4 : m ≤ 4 := by omega
  have hof1 : 1 ≤ of := by omega
  have hof6 : of ≤ 6 := by omega
  obtain ⟨s, hs⟩ : ∃ c, c = sl % n := ⟨_, rfl⟩
  have hsn : s < n := by rw [hs]; exact Nat.mod_lt _ (by omega)
  have es : (sl : Int) % (n : Int) = (s : Int) := by rw [hs]; rfl
  have es2 : (sl : Int).tmod (n : Int) = (s : Int) := by rw [hs]; rfl
  have hsz : (0 : Int) ≤ (s : Int) := by omega
  have hsm : (s : Int) < (m : Int) := by omega
  obtain ⟨b1, ob1, vA, vc, rfl, hb1, hc0, hkv⟩ := HP.out.at_ (Below.refl _ _) (show s < ps.length by rw [← HM.out]; omega)
  obtain ⟨ln, hln⟩ : ∃ z, z = (polN ps s).length := ⟨_, rfl⟩
  have HLN := Lib.hid hln
  have HC1 := Lib.hid hc0
  have HKV := Lib.hid hkv
  rw [← hln] at hc0 HC1 HKV
  have hc1 := (HB3.out.cell (p := ⟨b1, ob1 + s, none⟩) hb1).trans hc0
  have HL1 := Lib.hid hb1
  clear hs hmn o1 o2 hn0 hb1 hkv hln hc0
  by_cases hl0 : ln = 0
  case pos =>
    have e1 : ((ln : Int) == 0) = true := by simp [hl0]
    clear hl0
    go_wp2_with fail
    go_ret
    exact ⟨rfl, HB3.out⟩
  have e1 : ((ln : Int) == 0) = false := by simp [hl0]
  have hln1 : 1 ≤ ln := by omega
  have HPS := Lib.hid (few_short (HZF.out.symm.trans HZT.out) hpl)
  have hln12 : ln ≤ 12 := by rw [HLN.out]; exact HPS.out s (by rw [← HM.out]; omega)
  obtain ⟨b3, o3, rfl, -, -⟩ := IsU64.at_ (show IsU64 w M' (.slice vA (polN ps s).length vc) (polN ps s) by rw [← HLN.out]; exact HKV.out) (Below.refl _ _) (show 0 < (polN ps s).length by rw [← HLN.out]; exact hln1)
  go_upto_region 9 with fail
  refine nameC fun W5 hW5 => ?_
  have hb5 : Below W3.heap.size W3 W5 := by rw [hW5.out]; exact (Below.refl _ _).alloc (Nat.le_refl _) _
  obtain ⟨bm, hbm⟩ : ∃ q, q = W3.heap.size := ⟨_, rfl⟩
  have hm5 : MapV ukv Try.prog 23 W5 W3.heap.size 0 0 (fun _ => none) := by rw [hW5.out]; exact MapV.made W3
  rw [← hbm] at hm5 ⊢
  have HB5 := Lib.hid (HB3.out.trans (hb5.mono HB3.out.size))
  have HM5 := Lib.hid hm5
  have HBL : Hid (w.heap.size ≤ bm) := Lib.hid (by rw [hbm]; exact HB3.out.size)
  clear hW5 hb5 hm5 hbm hmk q1 q2 q3 e0 e1 hc1 hl0 es es2
  go_wp2_with fail
  go_loopw [60] (fun s60 wr => ∃ k : Nat, k ≤ of ∧ s60 = .int .u64 (k : Int) ∧ Hid (MapV ukv Try.prog 23 wr bm k k (metV (fun j => ((wantTo of (ownP ps s j) n : Nat) : Int)) k)) ∧ Hid (Below w.heap.size w wr)) (fun s60 _ => of - (intOf s60).toNat)
  case atStart => exact ⟨0, Nat.zero_le _, rfl, HM5, HB5⟩
  case round =>
    clear HM5 HB5 HB3
    obtain ⟨k, hk, rfl, HMV, HB⟩ := hrel
    by_cases hlt : k < of
    · have hk1 : (k : Int) < (of : Int) := by omega
      have hk0 : (0 : Int) ≤ (k : Int) := by omega
      go_upto_region 13 with (at_builtin; refine wpList_pols rfl (.tmp 63) (.tmp 64) rfl wr.heap.size rfl (own_empty (by rw [heap_alloc_if, if_pos rfl]) (Nat.le_refl _)) rfl HP.out (HB.out.alloc HB.out.size _) HB.out.size (by rw [← HM.out]; omega) (by rw [← HM.out]; omega) (by simp) ?_; intro b9 c9 w9 H9)
      have HB9 := Lib.hid (HB.out.trans ((((Below.refl wr.heap.size wr).alloc (Nat.le_refl _) _).trans H9.out.2.1).mono HB.out.size))
      have hc1 := (HB9.out.cell (p := ⟨b1, ob1 + s, none⟩) HL1.out).trans HC1.out
      have hb19 : b1 < w9.heap.size := Nat.lt_of_lt_of_le HL1.out HB9.out.size
      have hb99 : b9 < w9.heap.size := H9.out.1.lt
      have hlv : ln ≤ vc := by
        obtain ⟨A', c', e, h1, -⟩ := HKV.out
        injection e with _ e2 e3
        omega
      have hlv1 : (1 : Int) ≤ (ln : Int) := by omega
      have hlv2 : (1 : Int) ≤ (vc : Int) := by omega
      have hlv3 : ¬ (ln : Int) < 1 := by omega
      have hlv4 : (ln : Int) ≤ (vc : Int) := by omega
      have HCC := Lib.hid (And.intro H9.out.2.2.1 H9.out.2.2.2)
      have hbA : Below w9.heap.size w9 (w9.alloc (.cells #[.int .u64 (k : Int)] 23)) := (Below.refl _ _).alloc (Nat.le_refl _) _
      have HBA := Lib.hid hbA
      have hsp : s < ps.length := by rw [← HM.out]; omega
      go_cut [14] (fun s14 W => s14 = .slice (some ⟨b9, 0, none⟩) m c9 ∧ Hid (IsPol W TT (.slice (some ⟨b9, 0, none⟩) m c9) (ownP ps s k)) ∧ Hid (Below wr.heap.size wr W))
      case first =>
        by_cases hv1 : vc = 1
        · obtain rfl : ln = 1 := by omega
          have HT := Lib.hid (show (polN ps s).tail = [] from List.eq_nil_of_length_eq_zero (by rw [List.length_tail, ← HLN.out]))
          subst hv1
          clear hbA
          go_wp2_with (at_builtin; refine wpList_app64 (M := TT) rfl (.tmp 69) (.tmp 74) rfl w9.heap.size [k] [] rfl (own_one64 (by rw [heap_alloc_if, if_pos rfl]) (Nat.le_refl _)) rfl ⟨_, _, rfl, by simp, by omega, fun h => absurd h (by simp)⟩ 1 rfl (by simp) (by simp) ?_; intro A8 d8 w8 H8; have hbw := HBA.out.trans H8.out.2; obtain ⟨⟨x8, hx8⟩, hf8⟩ := H9.out.1.cell hbw hsp)
          go_meet
          case rel =>
            have h7 : IsU64 w8 (fun q => w9.heap.size ≤ q) (.slice A8 1 d8) (k :: (polN ps s).tail) := by rw [HT.out]; exact H8.out.1
            have h6 := PolsAt.own H9.out.1 hbw h7 hsp HCC.out.1 HCC.out.2
            rw [← HM.out] at h6
            exact ⟨rfl, Lib.hid h6, Lib.hid ((((Below.refl wr.heap.size wr).alloc (Nat.le_refl _) _).trans H9.out.2.1).trans ((hbw.mono (((Below.refl wr.heap.size wr).alloc (Nat.le_refl _) _).trans H9.out.2.1).size).setCell H9.out.1.1 _))⟩
        · have hv2 : ¬ 1 = vc := by omega
          have hv3 : ¬ (vc : Int) = 1 := by omega
          have HKT := Lib.hid (IsU64.tail (IsSl.below HKV.out (HB9.out.trans (hbA.mono HB9.out.size))) hln1 (some ⟨b3, o3 + 1, none⟩) (fun _ => rfl))
          clear hbA
          go_wp2_with (at_builtin; refine wpList_app64 rfl (.tmp 69) (.tmp 74) rfl w9.heap.size [k] (polN ps s).tail rfl (own_one64 (by rw [heap_alloc_if, if_pos rfl]) (Nat.le_refl _)) rfl HKT.out ln (by rw [List.length_append, List.length_tail, ← HLN.out, List.length_singleton]; omega) (by rw [List.length_tail, ← HLN.out, List.length_singleton]; omega) (by simp) ?_; intro A8 d8 w8 H8; have hbw := HBA.out.trans H8.out.2; obtain ⟨⟨x8, hx8⟩, hf8⟩ := H9.out.1.cell hbw hsp)
          go_meet
          case rel =>
            have h6 := PolsAt.own H9.out.1 hbw H8.out.1 hsp HCC.out.1 HCC.out.2
            rw [← HM.out] at h6
            exact ⟨rfl, Lib.hid h6, Lib.hid ((((Below.refl wr.heap.size wr).alloc (Nat.le_refl _) _).trans H9.out.2.1).trans ((hbw.mono (((Below.refl wr.heap.size wr).alloc (Nat.le_refl _) _).trans H9.out.2.1).size).setCell H9.out.1.1 _))⟩
      case rest =>
        obtain ⟨rfl, HPK, HBc⟩ := hcut
        obtain ⟨qs, hqs⟩ : ∃ z, z = ownP ps s k := ⟨_, rfl⟩
        have HQ := Lib.hid hqs
        rw [← hqs] at HPK
        have HUQ := Lib.hid (show ∀ i, i < qs.length → U64s (polN qs i) by rw [hqs]; exact ownP_u64 hsp (by omega) HU.out)
        have HQL := Lib.hid (show qs.length = m by rw [hqs, ownP_len, HM.out])
        have HBw := Lib.hid (HB.out.trans (HBc.out.mono HB.out.size))
        have HMc := Lib.hid (HMV.out.below HBc.out HMV.out.lt)
        have HBMc := Lib.hid (Nat.lt_of_lt_of_le HMV.out.lt HBc.out.size)
        clear hqs HMV HB HBc HB9 H9 HCC HBA hc1 hb19 hb99 hlv hlv1 hlv2 hlv3 hlv4
        go_wp2_with fail
        refine (start_any _ _ _ _ _ cl t of qs (IsSl.below HA.out HBw.out) HPK.out HWW.out HUQ.out).mono ?_
        rintro e W4 ⟨bv, rfl, ⟨y0, y1, y2, y3, y4, y5, y6, y7, y8, y9, y10, y11, y12, y13, rfl⟩, hbv, hb⟩
        obtain ⟨ok, hok⟩ : ∃ z, z = startB cl t of qs := ⟨_, rfl⟩
        have HOK := Lib.hid hok
        have HBV := Lib.hid hbv
        rw [← hok] at HBV ⊢
        rw [← HN.out] at HBV
        have HB4 : Hid (Below wc.heap.size wc W4) := Lib.hid hb
        clear hb hbv hok
        go_upto_region 15 with fail
        refine nameC fun W5 hW5 => ?_
        have hb5 : Below W4.heap.size W4 W5 := by rw [hW5.out]; exact (Below.refl _ _).alloc (Nat.le_refl _) _
        obtain ⟨g, hg⟩ : ∃ g, g = W4.heap.size := ⟨_, rfl⟩
        have k5 : W5.heap[g]? = some (.cells #[.slice y0 y1 y2, .int .i64 y3, .int .u64 y4, .slice y5 y6 y7, .slice y8 y9 y10, .slice y11 y12 y13] 32 (0, 0)) := by rw [hW5.out, hg]; exact heap_alloc_new _ _
        have HB5 := Lib.hid (HB4.out.trans (hb5.mono HB4.out.size))
        have HGL : Hid (wc.heap.size ≤ g) := Lib.hid (by rw [hg]; exact HB4.out.size)
        have HX5 := Lib.hid (show ok = true → BoxN W5 g (stB cl t of qs n) from fun h => ⟨y0, y1, y2, y3, y4, y5, y6, y7, y8, y9, y10, y11, y12, y13, k5, IsBea.below (IsBea.mono (HBV.out h) (fun q hq _ => by show q ≠ g; omega)) hb5⟩)
        rw [← hg]
        clear hW5 hb5 k5 hg HBV HB4
        by_cases hok : ok = true
        case neg =>
          rw [show ok = false by simpa using hok]
          clear hok
          go_wp2_with fail
          go_ret
          exact ⟨rfl, HBw.out.trans (HB5.out.mono HBw.out.size)⟩
        have HST := Lib.hid (St.of (HOK.out.symm.trans hok))
        have HBX := Lib.hid (HX5.out hok)
        rw [hok]
        clear hok HX5
        have HOV := Lib.hid (Ov.start HST.out)
        rw [← HN.out] at HOV
        have HPN := Lib.hid (show ∀ i, i < qs.length → 1 ≤ (polN qs i).length from fun i hi => pol_ne HST.out (by rw [← HST.out.len]; exact hi))
        go_wp2_with fail
        go_loopw [90] (fun s90 wr => ∃ i : Nat, i ≤ n ∧ s90 = .int .i64 (i : Int) ∧ ∃ b, Hid (Ov cl t of qs b ∧ ∀ j, j < i → hasR b (nthI cl j) = true) ∧ Hid (BoxN wr g b) ∧ Hid (Below wc.heap.size wc wr)) (fun s90 _ => n - (intOf s90).toNat)
        case atStart => exact ⟨0, Nat.zero_le _, rfl, _, Lib.hid ⟨HOV.out, fun j hj => absurd hj (by omega)⟩, HBX, HB5⟩
        case round =>
          clear HOV HBX HB5
          rename_i wr2
          obtain ⟨i, hi, rfl, b, HOR, HBX, HB⟩ := hrel
          have HOV := Lib.hid HOR.out.1
          have HSM := Lib.hid (HOV.out.small HST.out HWW.out)
          by_cases hlt2 : i < n
          · have hi1 : (i : Int) < (n : Int) := by omega
            have hi0 : (0 : Int) ≤ (i : Int) := by omega
            have hu8 : IntKind.u8.wrap (i : Int) = (i : Int) := by
              simp [IntKind.wrap, IntKind.signed, IntKind.bits]; omega
            obtain ⟨x0, x1, x2, x3, x4, x5, x6, x7, x8, x9, x10, x11, x12, x13, hk, hbe⟩ := HBX.out
            obtain ⟨⟨c0, c1, c2, c3, c4, c5⟩, ⟨f0, f1, f2, f3, f4, f5⟩⟩ := blk6 hk
            clear hk
            go_wp2_with fail
            refine (play_any _ (fun q => q ≠ g) _ _ _ _ _ b cl qs i i hbe HSM.out (IsSl.below HA.out (HBw.out.trans (HB.out.mono HBw.out.size))) (HPK.out.below HB.out) HWW.out HUQ.out (by rw [← HN.out]; exact ⟨hn1, by omega⟩) (by rw [HQL.out, ← HN.out, HML.out]) HPN.out (by omega) (by omega)).mono ?_
            rintro e w4 ⟨bv, rfl, hbv, hb⟩
            have hin : i % cl.length = i := Nat.mod_eq_of_lt (by rw [← HN.out]; exact hlt2)
            have hpl := HOV.out.play HST.out (c := i % cl.length) (f := i % cl.length) (by rw [hin, ← HN.out]; exact hlt2) (by rw [hin, ← HN.out]; exact hlt2)
            have HRV := Lib.hid (show ∀ j, j < i + 1 → hasR (playD b cl qs i i).1 (nthI cl j) = true from fun j hj => by
              have := HOV.out.play_has HST.out (c := i) (f := i) (by rw [← HN.out]; exact hlt2) (by rw [← HN.out]; exact hlt2) (nthI cl j)
              unfold playD
              rw [hin, this]
              rcases Nat.lt_or_ge j i with h1 | h1
              · rw [HOR.out.2 j h1]; rfl
              · rw [show j = i by omega]; simp)
            clear hin
            clear c0 c1 c2 c3 c4 c5 f0 f1 f2 f3 f4 f5
            obtain ⟨x0, x1, x2, x3, x4, x5, x6, x7, x8, x9, x10, x11, x12, x13, hk, -⟩ := BoxN.below HBX.out hb
            obtain ⟨⟨c0, c1, c2, c3, c4, c5⟩, ⟨f0, f1, f2, f3, f4, f5⟩⟩ := blk6 hk
            clear hk
            obtain ⟨b2, hb2⟩ : ∃ z, z = (playD b cl qs i i).1 := ⟨_, rfl⟩
            have HOV2 := Lib.hid (show Ov cl t of qs b2 by rw [hb2]; exact hpl.1)
            rw [show (playD b cl qs i i).2 = true from hpl.2]
            rw [← hb2] at hbv HRV
            clear hb2 hpl
            obtain ⟨z0, z1, z2, z3, z4, z5, z6, z7, z8, z9, z10, z11, z12, z13, rfl⟩ := hbv.shape
            go_upto_region 21 with fail
            clear hbe
            refine nameC fun W9 hW9 => ?_
            have hw9 : W9 = w6 w4 g (.slice z0 z1 z2) (.int .i64 z3) (.int .u64 z4) (.slice z5 z6 z7) (.slice z8 z9 z10) (.slice z11 z12 z13) := hW9.out
            have HBX9 := Lib.hid (show BoxN W9 g b2 by rw [hw9]; exact BoxN.set (w := _) HBX.out hb hbv)
            have HB9 : Hid (Below wc.heap.size wc W9) := Lib.hid (by rw [hw9]; exact w6_below (HB.out.trans (hb.mono HB.out.size)) HGL.out _ _ _ _ _ _)
            have HSM2 := Lib.hid (HOV2.out.small HST.out HWW.out)
            clear hw9 hW9 hb hbv c0 c1 c2 c3 c4 c5 f0 f1 f2 f3 f4 f5 HOV HBX HB HSM HOR
            go_wp2_with fail
            go_roundw
            case rel => exact ⟨i + 1, by omega, by go_num, b2, Lib.hid ⟨HOV2.out, HRV.out⟩, HBX9, HB9⟩
            case measure => simp [intOf]; omega
          · obtain rfl : i = n := by omega
            have hi1 : ¬ (i : Int) < (i : Int) := by omega
            obtain ⟨x0, x1, x2, x3, x4, x5, x6, x7, x8, x9, x10, x11, x12, x13, hk, hbe⟩ := HBX.out
            obtain ⟨⟨c0, c1, c2, c3, c4, c5⟩, ⟨f0, f1, f2, f3, f4, f5⟩⟩ := blk6 hk
            clear hk
            go_wp2_with fail
            refine (number2_any _ _ _ b hbe HSM.out).mono ?_
            rintro e w10 ⟨rfl, hb10⟩
            have HB10 := Lib.hid (HB.out.trans (hb10.mono HB.out.size))
            have hml : missL b b.clubs.length = [] := missL_known fun c hc => by
              have hc' : c < cl.length := by rw [HOV.out.kl] at hc; exact hc
              rw [HOV.out.kl]
              exact hasR_known HOV.out.chk (HOR.out.2 c (by rw [HN.out]; exact hc'))
            rw [HOV.out.numD_eq HST.out, hml, if_neg (by simp), ← HN.out]
            have HMX := Lib.hid (HMc.out.below HB10.out HBMc.out)
            have HBX := Lib.hid (HBw.out.trans (HB10.out.mono HBw.out.size))
            obtain ⟨wa, hwa⟩ : ∃ z, z = wantTo of qs i := ⟨_, rfl⟩
            have hwo : wa < of := by rw [hwa]; exact wantTo_lt hof1 _
            have HFK := Lib.hid (show (fun j => ((wantTo of (ownP ps s j) i : Nat) : Int)) k = (wa : Int) by rw [hwa, HQ.out])
            have HNO := Lib.hid (show metV (fun j => ((wantTo of (ownP ps s j) i : Nat) : Int)) k (wa : Int) = none by
              unfold metV
              rw [if_neg]
              rw [Bool.not_eq_true, List.any_eq_false]
              intro j hj
              have hj' := List.mem_range.1 hj
              rw [decide_eq_true_eq]
              intro e
              have e0 : (wa : Int) = ((wantTo of (ownP ps s j) i : Nat) : Int) := e
              have e2 : wantTo of (ownP ps s k) i = wantTo of (ownP ps s j) i := by rw [← HQ.out, ← hwa]; omega
              have := want_inj hof1 hsp (by omega) (by omega) i hsn e2
              omega)
            obtain ⟨mf, hmf⟩ : ∃ z, z = (fun j => ((wantTo of (ownP ps s j) i : Nat) : Int)) := ⟨_, rfl⟩
            have HMF := Lib.hid hmf
            have HFK := Lib.hid (show mf k = (wa : Int) by rw [hmf]; exact HFK.out)
            rw [← hmf] at HNO HMX
            have HSU := Lib.hid (metV_succ mf k)
            rw [← hwa]
            have HKEY := Lib.hid (Maps.keyOf_int_mk Try.underlying23 (show (Lit.int .u64 (wa : Int)).wf = true by simp [Lit.wf, IntKind.min, IntKind.max, IntKind.signed, IntKind.bits]; omega))
            have hlook : (Instr.lookup 43 (.map (some bm)) (.int .u64 (wa : Int)) false).run Try.prog w10 = .ok (.bool false) w10 := by
              have := HMX.out.look (Maps.int_keyed Try.underlying23) Try.underlying43 (show (zeroValue 4).run Try.prog w10 = .ok (.bool false) w10 from rfl) (key := (wa : Int)) HKEY.out
              rw [HNO.out] at this
              exact this
            have hgo : ¬ (of : Int) ≤ (wa : Int) := by omega
            clear hml hb10 hbe hwa hmf c0 c1 c2 c3 c4 c5 f0 f1 f2 f3 f4 f5
            go_upto_region 28 with (at_mapUpdate; refine wpList_update_mapV rfl _ _ _ 43 rfl (Maps.int_keyed Try.underlying23) Try.underlying43 rfl HMX.out (by unfold maxLen; omega) ukv_inj (wa : Int) _ rfl HKEY.out (.bool true) rfl ?_; intro w8 hs8 hg8)
            rw [HNO.out] at hs8
            rw [← HFK.out, HSU.out] at hs8
            have HM8 : Hid (MapV ukv Try.prog 23 w8 bm (k + 1) (k + 1) (metV (fun j => ((wantTo of (ownP ps s j) i : Nat) : Int)) (k + 1))) := Lib.hid (by rw [← HMF.out]; exact hs8)
            have HB8 : Hid (Below w.heap.size w w8) := Lib.hid (HBX.out.grown hg8 HBX.out.size (fun q e => by cases e; exact HBL.out))
            clear hs8 hg8
            go_wp2_with fail
            go_roundw
            case rel => exact ⟨k + 1, by omega, by go_num, HM8, HB8⟩
            case measure => simp [intOf]; omega
    · obtain rfl : k = of := by omega
      have hk1 : ¬ (k : Int) < (k : Int) := by omega
      have hlen : ∀ ty, (Builtin.len_ #[43] ty #[.map (some bm)]).run Try.prog wr = .ok (.int .i64 (k : Int)) wr := fun ty => HMV.out.len Try.underlying43 ty
      have tk : ((k : Int) == (k : Int)) = true := by simp
      go_wp2_with fail
      go_ret
      exact ⟨rfl, HB.out⟩
end Go.Proofs.Ytgaanndidcdbpaa
