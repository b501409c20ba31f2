/- The law BeaconOpens. -/
import Derived.Test.YtgaanndidcdbpaaZM
import Derived.Test.YtgaanndidcdbpaaZI
import Derived.BigQuiet
namespace Go.Proofs.Ytgaanndidcdbpaa
open Go.RowKit Go.Shelf

set_option maxRecDepth 100000 in
set_option maxHeartbeats 8000000 in
theorem law5 (w : World) (M M' M'' : Nat → Prop) (v u vs : Value) (cl : List Int) (t : Int) (of : Nat) (ps : List (List Nat)) (sl : Nat) (xs : List Nat) (ha : IsInts w M v cl) (hp : IsPol w M' u ps) (hw : ∀ i, i < cl.length → W64 (nthI cl i)) (hu : ∀ i, i < ps.length → U64s (polN ps i)) (hsl : sl < 256) (hss : IsSl w M'' 1 vs xs.length (fun i _ => .int .u8 ((xs.getD i 0 : Nat) : Int))) (h8 : ∀ i, i < xs.length → xs.getD i 0 < 256) :
    Calls Try.prog 5 #[v, .int .i64 t, .int .u64 (of : Int), u, .int .u8 (sl : Int), vs] w (RetT true w) := by
  have HA := Lib.hid ha
  have HP := Lib.hid hp
  have HU := Lib.hid hu
  have HWW := Lib.hid hw
  obtain ⟨aA, ac, rfl, -⟩ := ha
  obtain ⟨bA, bc, rfl, -, hbc⟩ := hp.len
  obtain ⟨n, hn⟩ : ∃ n, n = cl.length := ⟨_, rfl⟩
  have HN := Lib.hid hn
  obtain ⟨m, hm⟩ : ∃ m, m = ps.length := ⟨_, rfl⟩
  have HM := Lib.hid hm
  rw [← hn] at HA ⊢
  rw [← hm] at HP ⊢
  clear hp hw hu hbc hn hm
  have HSS := Lib.hid hss
  have H8 := Lib.hid h8
  obtain ⟨sA, sc, rfl, -⟩ := hss
  clear h8
  obtain ⟨l, hl⟩ : ∃ l, l = xs.length := ⟨_, rfl⟩
  have HL := Lib.hid hl
  rw [← hl] at HSS ⊢
  clear hl
  have hmk : ∀ W, (Instr.makeMap 46 none).run Try.prog W = .ok (.map (some W.heap.size)) (W.alloc (.map #[] 0)) := fun W => rfl
  go_enter Try.func5, Try.ntmps5
  go_wp2_with fail
  refine (sane_any w).mono ?_
  rintro e W2 ⟨rfl, hb⟩
  have HB := Lib.hid hb
  clear hb
  go_wp2_with fail
  refine (few_any _ _ _ _ _ cl ps (IsSl.below HA.out HB.out) (HP.out.below HB.out) none 0 0).mono ?_
  rintro e W3 ⟨rfl, hb⟩
  have HBn := Lib.hid (HB.out.trans (hb.mono HB.out.size))
  have HB3 := HBn
  clear hb HB HBn
  obtain ⟨zf, hzf⟩ : ∃ z, z = fewD cl ps 0 := ⟨_, rfl⟩
  have HZF := Lib.hid hzf
  rw [← hzf]
  clear hzf
  by_cases hf : zf = true
  case neg =>
    rw [show zf = false by simpa using hf]
    clear hf
    go_wp2_with fail
    go_ret
    exact ⟨rfl, HB3.out⟩
  have HFL := Lib.hid (fewD_len (HZF.out.symm.trans hf))
  rw [hf]
  clear hf
  by_cases h8 : l ≤ 8
  case neg =>
    have h8b : (8 : Int) < (l : Int) := by omega
    clear h8
    go_wp2_with fail
    go_ret
    exact ⟨rfl, HB3.out⟩
  have h8b : ¬ (8 : Int) < (l : Int) := by omega
  by_cases hn0 : n = 0
  case pos =>
    have e0 : ((n : Int) == 0) = true := by simp [hn0]
    clear hn0
    go_wp2_with fail
    go_ret
    exact ⟨rfl, HB3.out⟩
  have e0 : ((n : Int) == 0) = false := by simp [hn0]
  have hnz : (n : Int) ≠ 0 := by omega
  go_wp2_with fail
  refine (start_any _ _ _ _ _ cl t of ps (IsSl.below HA.out HB3.out) (HP.out.below HB3.out) HWW.out HU.out).mono ?_
  rintro e W4 ⟨bv, rfl, ⟨y0, y1, y2, y3, y4, y5, y6, y7, y8, y9, y10, y11, y12, y13, rfl⟩, hbv, hb⟩
  obtain ⟨ok, hok⟩ : ∃ z, z = startB cl t of ps := ⟨_, rfl⟩
  have HOK := Lib.hid hok
  have HBV := Lib.hid hbv
  rw [← hok] at HBV ⊢
  rw [← HN.out] at HBV
  have HB4 := Lib.hid (HB3.out.trans (hb.mono HB3.out.size))
  have HS4 := Lib.hid hb.size
  clear hb hbv hok
  go_upto_region 6 with fail
  refine nameC fun W5 hW5 => ?_
  have hb5 : Below W4.heap.size W4 W5 := by rw [hW5.out]; exact (Below.refl _ _).alloc (Nat.le_refl _) _
  obtain ⟨g, hg⟩ : ∃ g, g = W4.heap.size := ⟨_, rfl⟩
  have k5 : W5.heap[g]? = some (.cells #[.slice y0 y1 y2, .int .i64 y3, .int .u64 y4, .slice y5 y6 y7, .slice y8 y9 y10, .slice y11 y12 y13] 32 (0, 0)) := by rw [hW5.out, hg]; exact heap_alloc_new _ _
  have HB5 := Lib.hid (HB4.out.trans (hb5.mono HB4.out.size))
  have HGL : Hid (w.heap.size ≤ g) := Lib.hid (by rw [hg]; exact HB4.out.size)
  have HX5 := Lib.hid (show ok = true → BoxN W5 g (stB cl t of ps n) from fun h => ⟨y0, y1, y2, y3, y4, y5, y6, y7, y8, y9, y10, y11, y12, y13, k5, IsBea.below (IsBea.mono (HBV.out h) (fun q hq _ => by show q ≠ g; omega)) hb5⟩)
  rw [← hg]
  clear hW5 hb5 k5 hg HBV HB4 HS4
  by_cases hok : ok = true
  case neg =>
    rw [show ok = false by simpa using hok]
    clear hok
    go_wp2_with fail
    go_ret
    exact ⟨rfl, HB5.out⟩
  have HST := Lib.hid (St.of (HOK.out.symm.trans hok))
  have HBX := Lib.hid (HX5.out hok)
  have HML : Hid (m = n) := Lib.hid (by rw [HM.out, HN.out]; exact HST.out.len)
  rw [hok]
  clear hok HX5 HB3
  have HPN := Lib.hid (show ∀ i, i < ps.length → 1 ≤ (polN ps i).length from fun i hi => pol_ne HST.out (by rw [← HST.out.len]; exact hi))
  have hn1 : 1 ≤ n := by omega
  have hn4 : n ≤ 4 := by rw [HN.out]; exact HFL.out.1
  clear e0 hn0 h8b
  obtain ⟨s, hs⟩ : ∃ c, c = sl % n := ⟨_, rfl⟩
  have hsn : s < n := by rw [hs]; exact Nat.mod_lt _ (by omega)
  have es : (sl : Int) % (n : Int) = (s : Int) := by rw [hs]; rfl
  have es2 : (sl : Int).tmod (n : Int) = (s : Int) := by rw [hs]; rfl
  have HSL := Lib.hid hs
  clear hs
  go_wp2_with fail
  go_loopw [61] (fun s61 wr => ∃ k : Nat, k ≤ n ∧ s61 = .int .i64 (k : Int) ∧ ∃ b, Hid (RvI cl t of ps s k b) ∧ Hid (BoxN wr g b) ∧ Hid (Below w.heap.size w wr)) (fun s61 _ => n - (intOf s61).toNat)
  case atStart => exact ⟨0, Nat.zero_le _, rfl, _, Lib.hid (by rw [HN.out]; exact RvI.start HST.out), HBX, HB5⟩
  case round =>
    clear HBX HB5
    obtain ⟨i, hi, rfl, b, HRV, HBX, HB⟩ := hrel
    by_cases hlt : i < n
    · have hi1 : (i : Int) < (n : Int) := by omega
      have hi0 : (0 : Int) ≤ (i : Int) := by omega
      by_cases his : i = s
      · have hne : ((i : Int) != (s : Int)) = false := by simp [his]
        have HRV2 := Lib.hid (HRV.out.skip his)
        clear his
        go_wp2_with fail
        go_roundw
        case rel => exact ⟨i + 1, by omega, by go_num, b, HRV2, HBX, HB⟩
        case measure => simp [intOf]; omega
      · have hne : ((i : Int) != (s : Int)) = true := by rw [bne_iff_ne]; omega
        have HOV := Lib.hid HRV.out.ov
        have HSM := Lib.hid (HOV.out.small HST.out HWW.out)
        have hu8 : IntKind.u8.wrap (i : Int) = (i : Int) := by
          simp [IntKind.wrap, IntKind.signed, IntKind.bits]; omega
        obtain ⟨y0, y1, y2, y3, y4, y5, y6, y7, y8, y9, y10, y11, y12, y13, hk, hbe⟩ := HBX.out
        obtain ⟨⟨c0, c1, c2, c3, c4, c5⟩, ⟨f0, f1, f2, f3, f4, f5⟩⟩ := blk6 hk
        clear hk
        go_wp2_with fail
        refine (play_any _ (fun q => q ≠ g) _ _ _ _ _ b cl ps i i hbe HSM.out (IsSl.below HA.out HB.out) (HP.out.below HB.out) HWW.out HU.out (by rw [← HN.out]; exact ⟨hn1, by omega⟩) (by rw [← HM.out, ← HN.out, HML.out]) HPN.out (by omega) (by omega)).mono ?_
        rintro e w4 ⟨bv, rfl, hbv, hb⟩
        have hin : i % cl.length = i := Nat.mod_eq_of_lt (by rw [← HN.out]; exact hlt)
        have hpl := HOV.out.play HST.out (c := i % cl.length) (f := i % cl.length) (by rw [hin, ← HN.out]; exact hlt) (by rw [hin, ← HN.out]; exact hlt)
        have HR2 := Lib.hid (show RvI cl t of ps s (i + 1) (playD b cl ps i i).1 by
          unfold playD
          rw [hin]
          exact HRV.out.step HST.out (by rw [← HN.out]; exact hlt) (by rw [← HN.out]; exact hsn) his)
        clear hin his
        clear c0 c1 c2 c3 c4 c5 f0 f1 f2 f3 f4 f5
        obtain ⟨x0, x1, x2, x3, x4, x5, x6, x7, x8, x9, x10, x11, x12, x13, hk, -⟩ := BoxN.below HBX.out hb
        obtain ⟨⟨c0, c1, c2, c3, c4, c5⟩, ⟨f0, f1, f2, f3, f4, f5⟩⟩ := blk6 hk
        clear hk
        obtain ⟨b2, hb2⟩ : ∃ z, z = (playD b cl ps i i).1 := ⟨_, rfl⟩
        have HOV2 := Lib.hid (show Ov cl t of ps b2 by rw [hb2]; exact hpl.1)
        rw [show (playD b cl ps i i).2 = true from hpl.2]
        rw [← hb2] at hbv HR2
        clear hb2 hpl
        obtain ⟨z0, z1, z2, z3, z4, z5, z6, z7, z8, z9, z10, z11, z12, z13, rfl⟩ := hbv.shape
        go_upto_region 14 with fail
        clear hbe
        refine nameC fun W9 hW9 => ?_
        have hw9 : W9 = w6 w4 g (.slice z0 z1 z2) (.int .i64 z3) (.int .u64 z4) (.slice z5 z6 z7) (.slice z8 z9 z10) (.slice z11 z12 z13) := hW9.out
        have HBX9 := Lib.hid (show BoxN W9 g b2 by rw [hw9]; exact BoxN.set (w := _) HBX.out hb hbv)
        have HB9 : Hid (Below w.heap.size w W9) := Lib.hid (by rw [hw9]; exact w6_below (HB.out.trans (hb.mono HB.out.size)) HGL.out _ _ _ _ _ _)
        have HSM2 := Lib.hid (HOV2.out.small HST.out HWW.out)
        clear hw9 hW9 hb hbv c0 c1 c2 c3 c4 c5 f0 f1 f2 f3 f4 f5 HOV HBX HB HSM HRV
        go_wp2_with fail
        go_roundw
        case rel => exact ⟨i + 1, by omega, by go_num, b2, HR2, HBX9, HB9⟩
        case measure => simp [intOf]; omega
    · obtain rfl : i = n := by omega
      have hi1 : ¬ (i : Int) < (i : Int) := by omega
      have HOI := Lib.hid (show OpI cl t of ps s b by have := HRV.out; rw [HN.out] at this; exact this.toOp)
      have HOE := Lib.hid (show b.opns.length = 0 by rw [HRV.out.op]; rfl)
      have HMZ := Lib.hid (opnM_start (cl := cl) (s := s) HRV.out.op)
      clear hlt hi HRV
      go_upto_region 18 with fail
      refine nameC fun W6 hW6 => ?_
      have hb6 : Below wr.heap.size wr W6 := by rw [hW6.out]; exact (Below.refl _ _).alloc (Nat.le_refl _) _
      obtain ⟨bm, hbm⟩ : ∃ q, q = wr.heap.size := ⟨_, rfl⟩
      have hm6 : MapV ikv Try.prog 3 W6 wr.heap.size 0 0 (fun _ => none) := by rw [hW6.out]; exact MapV.made wr
      rw [← HMZ.out, ← hbm] at hm6
      rw [← HOE.out] at hm6
      have HM6 := Lib.hid (show ∃ q, q ≤ 0 ∧ MapV ikv Try.prog 3 W6 bm q b.opns.length (opnM b cl s) from ⟨_, by rw [HOE.out]; exact Nat.le_refl _, hm6⟩)
      have HBX6 := Lib.hid (BoxN.below HBX.out hb6)
      have HB6 := Lib.hid (HB.out.trans (hb6.mono HB.out.size))
      have HGB : Hid (bm ≠ g) := Lib.hid (by rw [hbm]; have := HBX.out.lt; omega)
      have HBL : Hid (w.heap.size ≤ bm) := Lib.hid (by rw [hbm]; exact HB.out.size)
      rw [← hbm]
      clear hW6 hb6 hm6 hbm HBX HB HMZ HOE hmk hi1
      go_wp2_with fail
      go_loopw [85] (fun s85 wr => ∃ k : Nat, k ≤ l ∧ s85 = .int .i64 (k : Int) ∧ ∃ b, Hid (OpI cl t of ps s b) ∧ Hid (BoxN wr g b) ∧ Hid (∃ q, q ≤ k ∧ MapV ikv Try.prog 3 wr bm q b.opns.length (opnM b cl s)) ∧ Hid (Below w.heap.size w wr)) (fun s85 _ => l - (intOf s85).toNat)
      case atStart => exact ⟨0, Nat.zero_le _, rfl, _, HOI, HBX6, HM6, HB6⟩
      case round =>
        clear HOI HBX6 HM6 HB6
        obtain ⟨k, hk, rfl, b, HOI, HBX, HMQ, HB⟩ := hrel
        by_cases hlt : k < l
        · have hk1 : (k : Int) < (l : Int) := by omega
          have hk0 : (0 : Int) ≤ (k : Int) := by omega
          have h8 := H8.out k (by rw [← HL.out]; exact hlt)
          obtain ⟨A', c', e, _, _, h3⟩ := HSS.out
          cases e
          obtain ⟨bs, os, rfl, _, hbs, d0⟩ := h3.at1 HB.out hlt
          obtain ⟨f, hf⟩ : ∃ z, z = xs.getD k 0 := ⟨_, rfl⟩
          rw [← hf] at d0 h8
          clear hf hbs
          obtain ⟨fm, hfm⟩ : ∃ z, z = f % i := ⟨_, rfl⟩
          have hfn : fm < i := by rw [hfm]; exact Nat.mod_lt _ (by omega)
          have ef : (f : Int) % (i : Int) = (fm : Int) := by rw [hfm]; rfl
          have ef2 : (f : Int).tmod (i : Int) = (fm : Int) := by rw [hfm]; rfl
          have HFM := Lib.hid hfm
          clear hfm
          by_cases hfs : fm = s
          · have hne : ((fm : Int) == (s : Int)) = true := by simp [hfs]
            clear hfs
            go_wp2_with fail
            go_roundw
            case rel => exact ⟨k + 1, by omega, by go_num, b, HOI, HBX, Lib.hid (by obtain ⟨q, q1, q2⟩ := HMQ.out; exact ⟨q, by omega, q2⟩), HB⟩
            case measure => simp [intOf]; omega
          · have hne : ((fm : Int) == (s : Int)) = false := by rw [beq_eq_false_iff_ne]; omega
            have HOV := Lib.hid HOI.out.ov
            have HSM := Lib.hid (HOV.out.small HST.out HWW.out)
            have hu8 : IntKind.u8.wrap (s : Int) = (s : Int) := by
              simp [IntKind.wrap, IntKind.signed, IntKind.bits]; omega
            obtain ⟨y0, y1, y2, y3, y4, y5, y6, y7, y8, y9, y10, y11, y12, y13, hk, hbe⟩ := HBX.out
            obtain ⟨⟨c0, c1, c2, c3, c4, c5⟩, ⟨f0, f1, f2, f3, f4, f5⟩⟩ := blk6 hk
            clear hk
            go_wp2_with fail
            refine (play_any _ (fun q => q ≠ g) _ _ _ _ _ b cl ps s f hbe HSM.out (IsSl.below HA.out HB.out) (HP.out.below HB.out) HWW.out HU.out (by rw [← HN.out]; exact ⟨hn1, by omega⟩) (by rw [← HM.out, ← HN.out, HML.out]) HPN.out (by omega) h8).mono ?_
            rintro e w4 ⟨bv, rfl, hbv, hb⟩
            have hse : s % cl.length = s := Nat.mod_eq_of_lt (by rw [← HN.out]; exact hsn)
            have hfe : f % cl.length = fm := by rw [← HN.out]; exact HFM.out.symm
            have hpl := HOV.out.play HST.out (c := s % cl.length) (f := f % cl.length) (by rw [hse, ← HN.out]; exact hsn) (by rw [hfe, ← HN.out]; exact hfn)
            have HSP := Lib.hid (show OpI cl t of ps s (playD b cl ps s f).1 ∧ (playD b cl ps s f).1.opns.length = b.opns.length + (if hasO b (nthI cl s) (nthI cl fm) = true then 0 else 1) ∧ ∀ k, k < cl.length → hasO (playD b cl ps s f).1 (nthI cl s) (nthI cl k) = (decide (k = fm) || hasO b (nthI cl s) (nthI cl k)) from by
              unfold playD
              rw [hse, hfe]
              have := HOI.out.step HST.out (f := fm) (by rw [← HN.out]; exact hsn) (by rw [← HN.out]; exact hfn) (fun e => hfs e.symm)
              exact ⟨this.1, this.2.2⟩)
            clear hse hfe hfs
            clear c0 c1 c2 c3 c4 c5 f0 f1 f2 f3 f4 f5
            obtain ⟨x0, x1, x2, x3, x4, x5, x6, x7, x8, x9, x10, x11, x12, x13, hk, -⟩ := BoxN.below HBX.out hb
            obtain ⟨⟨c0, c1, c2, c3, c4, c5⟩, ⟨f0, f1, f2, f3, f4, f5⟩⟩ := blk6 hk
            clear hk
            obtain ⟨b2, hb2⟩ : ∃ z, z = (playD b cl ps s f).1 := ⟨_, rfl⟩
            have HOV2 := Lib.hid (show Ov cl t of ps b2 by rw [hb2]; exact hpl.1)
            rw [show (playD b cl ps s f).2 = true from hpl.2]
            rw [← hb2] at hbv HSP
            clear hb2 hpl
            obtain ⟨z0, z1, z2, z3, z4, z5, z6, z7, z8, z9, z10, z11, z12, z13, rfl⟩ := hbv.shape
            have HOI2 := Lib.hid HSP.out.1
            go_upto_region 23 with fail
            refine nameC fun W9 hW9 => ?_
            have hw9 : W9 = w6 w4 g (.slice z0 z1 z2) (.int .i64 z3) (.int .u64 z4) (.slice z5 z6 z7) (.slice z8 z9 z10) (.slice z11 z12 z13) := hW9.out
            have HBX9 := Lib.hid (show BoxN W9 g b2 by rw [hw9]; exact BoxN.set (w := _) HBX.out hb hbv)
            have HB9 : Hid (Below w.heap.size w W9) := Lib.hid (by rw [hw9]; exact w6_below (HB.out.trans (hb.mono HB.out.size)) HGL.out _ _ _ _ _ _)
            have HSM2 := Lib.hid (HOV2.out.small HST.out HWW.out)
            have HMP := Lib.hid (show ∃ q, q ≤ k ∧ MapV ikv Try.prog 3 W9 bm q b.opns.length (opnM b cl s) by
              obtain ⟨q, q1, q2⟩ := HMQ.out
              refine ⟨q, q1, ?_⟩
              have h4 := q2.below hb q2.lt
              refine h4.block ?_
              rw [hw9]; exact w6_other HGB.out _ _ _ _ _ _)
            clear hw9 hb hbv HMQ HOI HOV HBX HB HSM hbe c0 c1 c2 c3 c4 c5 f0 f1 f2 f3 f4 f5
            obtain ⟨q, hq1, HMV⟩ : ∃ q, q ≤ k ∧ Hid (MapV ikv Try.prog 3 W9 bm q b.opns.length (opnM b cl s)) := HMP.out
            clear HMP
            have HKEY := Lib.hid (Maps.keyOf_int_mk Try.underlying3 (show (Lit.int .i64 (fm : Int)).wf = true from W64.wf ⟨by omega, by omega⟩))
            go_upto_region 26 with (at_mapUpdate; refine wpList_update_mapV rfl _ _ _ 46 rfl (Maps.int_keyed Try.underlying3) Try.underlying46 rfl HMV.out (by unfold maxLen; omega) ikv_inj (fm : Int) _ rfl HKEY.out (.bool true) rfl ?_; intro w8 hs8 hg8)
            have hfc : fm < cl.length := by rw [← HN.out]; exact hfn
            rw [opnM_has hfc, opnM_upd hfc HSP.out.2.2] at hs8
            have hcn : (if hasO b (nthI cl s) (nthI cl fm) = true then b.opns.length else b.opns.length + 1) = b2.opns.length := by
              rw [HSP.out.2.1]; split <;> rfl
            rw [hcn] at hs8
            have HM8 := Lib.hid hs8
            have HBX8 := Lib.hid (BoxN.maps HBX9.out hg8 HMV.out.heap hs8.heap HGB.out)
            have HB8 : Hid (Below w.heap.size w w8) := Lib.hid (HB9.out.grown hg8 HB9.out.size (fun q e => by cases e; exact HBL.out))
            have HMI := Lib.hid (HOI2.out.missD_eq HST.out (by rw [← HN.out]; exact hsn))
            have HNU := Lib.hid (HOI2.out.numD_eq HST.out (by rw [← HN.out]; exact hsn))
            have HRE := Lib.hid (HOI2.out.rev HST.out (by rw [← HN.out]; exact hsn))
            obtain ⟨wa, hwa⟩ : ∃ z, z = wantTo of ps cl.length := ⟨_, rfl⟩
            rw [← hwa] at HNU HRE
            clear hs8 hg8 hcn hfc HSP HMV HBX9 HB9 HKEY hwa hne
            obtain ⟨x0, x1, x2, x3, x4, x5, x6, x7, x8, x9, x10, x11, x12, x13, hk, hbe⟩ := HBX8.out
            obtain ⟨⟨c0, c1, c2, c3, c4, c5⟩, ⟨f0, f1, f2, f3, f4, f5⟩⟩ := blk6 hk
            clear hk
            go_wp2_with fail
            refine (missing_any _ _ _ b2 hbe HSM2.out).mono ?_
            rintro e W11 ⟨mv, rfl, hmv, hb11⟩
            rw [HMI.out] at hmv ⊢
            have HB11 := Lib.hid (HB8.out.trans (hb11.mono HB8.out.size))
            have HBX11 := Lib.hid (BoxN.below HBX8.out hb11)
            have HM11 := Lib.hid (HM8.out.below hb11 HM8.out.lt)
            clear hb11 hbe c0 c1 c2 c3 c4 c5 f0 f1 f2 f3 f4 f5 HBX8 HB8 HM8 HMI
            obtain ⟨oc, hoc⟩ : ∃ z, z = b2.opns.length := ⟨_, rfl⟩
            have HOC := Lib.hid hoc
            rw [← hoc] at HM11 HNU hmv ⊢
            clear hoc
            have hlen : ∀ m ty, (Builtin.len_ #[46] ty #[.map (some bm)]).run Try.prog (W11.drewN m) = .ok (.int .i64 (oc : Int)) (W11.drewN m) := fun m ty => (HM11.out.drewN m).len Try.underlying46 ty
            obtain ⟨b5, o5, rfl, hb5, hcs⟩ := HA.out.at_ HB11.out (show s < cl.length by rw [← HN.out]; exact hsn)
            obtain ⟨xk, hxk⟩ : ∃ z, z = nthI cl s := ⟨_, rfl⟩
            rw [← hxk] at hmv hcs
            have HXK := Lib.hid hxk
            have HCS := Lib.hid hcs
            have hsz : (0 : Int) ≤ (s : Int) := by omega
            have hsz1 : (s : Int) < (i : Int) := by omega
            clear hxk hb5
            by_cases ht : t ≤ (oc : Int)
            · rw [if_pos ht] at HNU hmv ⊢
              obtain ⟨mA, mc, rfl, -⟩ := hmv
              have ht1 : decide (t ≤ (oc : Int)) = true := decide_eq_true ht
              have ht2 : ¬ (oc : Int) < t := by omega
              dsimp only
              go_upto_region 27 with fail
              go_cut [151] (fun s151 W => s151 = .bool false ∧ ∃ m, W = W11.drewN m)
              case first =>
                go_quiet (fail)
                go_wp2_with fail
                go_meet
                case rel => exact ⟨rfl, _, rfl⟩
              case rest =>
                obtain ⟨rfl, mm, rfl⟩ := hcut
                obtain ⟨W12, hW12⟩ : ∃ W, W = W11.drewN mm := ⟨_, rfl⟩
                have hb12 : Below W11.heap.size W11 W12 := by rw [hW12]; exact below_drewN (Below.refl _ _) _
                rw [← hW12]
                have HB12 := Lib.hid (HB11.out.trans (hb12.mono HB11.out.size))
                have HBX12 := Lib.hid (BoxN.below HBX11.out hb12)
                have HM12 := Lib.hid (HM11.out.below hb12 HM11.out.lt)
                have HCS12 := Lib.hid ((hb12.cell (p := ⟨b5, o5 + s, none⟩) (lt_of_cell HCS.out)).trans HCS.out)
                clear hW12 hb12 hlen HB11 HBX11 HM11 hcs 
                obtain ⟨x0, x1, x2, x3, x4, x5, x6, x7, x8, x9, x10, x11, x12, x13, hk, hbe⟩ := HBX12.out
                obtain ⟨⟨c0, c1, c2, c3, c4, c5⟩, ⟨f0, f1, f2, f3, f4, f5⟩⟩ := blk6 hk
                clear hk
                go_wp2_with fail
                refine (number2_any W12 _ _ b2 hbe HSM2.out).mono ?_
                rintro e W13 ⟨rfl, hb13⟩
                rw [HNU.out]
                dsimp only
                have HB13 := Lib.hid (HB12.out.trans (hb13.mono HB12.out.size))
                have HBX13 := Lib.hid (BoxN.below HBX12.out hb13)
                have HM13 := Lib.hid (HM12.out.below hb13 HM12.out.lt)
                have hcl2 := (hb13.cell (p := ⟨b5, o5 + s, none⟩) (lt_of_cell HCS12.out)).trans HCS12.out
                clear hb13 hbe c0 c1 c2 c3 c4 c5 f0 f1 f2 f3 f4 f5 HB12 HBX12 HM12 HCS12
                go_upto_region 30 with fail
                obtain ⟨x0, x1, x2, x3, x4, x5, x6, x7, x8, x9, x10, x11, x12, x13, G2, hbe⟩ := HBX13.out
                have HBE2 := Lib.hid (IsBea.mono (M' := fun q => q < W13.heap.size) hbe (fun q h _ => h))
                have hsc : s < cl.length := by rw [← HN.out]; exact hsn
                obtain ⟨b1, o1, vA, vc, rfl, hb1, hc1, hkv⟩ := HP.out.at_ HB13.out (show s < ps.length by rw [HST.out.len]; exact hsc)
                have hp1 : 0 < (polN ps s).length := pol_ne HST.out hsc
                obtain ⟨b3, o3, rfl, hb3, hc3⟩ := IsU64.at_ hkv (Below.refl _ _) hp1
                rw [show (polN ps s)[0] = p0 ps s by unfold p0; rw [List.getD_eq_getElem?_getD, List.getElem?_eq_getElem hp1]; rfl] at hc3
                have D1 := Lib.hid (fun (W : World) (hW : Below W13.heap.size W13 W) => Lib.hid (reveal_any W _ _ b2 ⟨nthI cl s, p0 ps s⟩ (HBE2.out.below hW) HSM2.out (HWW.out s hsc) (Nat.lt_trans (pol_lt HST.out hsc).1 (by decide))))
                obtain ⟨rz, hrz⟩ : ∃ z, z = revealD b2 ⟨nthI cl s, p0 ps s⟩ := ⟨_, rfl⟩
                have HRZ := Lib.hid (show rz.2 = 0 ∧ Ov cl t of ps rz.1 ∧ numD rz.1 = (wa, 0) from by rw [hrz, HRE.out.1]; exact ⟨rfl, HRE.out.2.1, HRE.out.2.2⟩)
                rw [← hrz, ← HXK.out] at D1
                dsimp only at D1
                obtain ⟨pn, hpn⟩ : ∃ z, z = p0 ps s := ⟨_, rfl⟩
                obtain ⟨ln, hln⟩ : ∃ z, z = (polN ps s).length := ⟨_, rfl⟩
                rw [← hpn] at hc3 D1
                rw [← hln] at hc1 hp1
                have HC := Lib.hid (show ∀ W', Below W13.heap.size W13 W' → (W'.cell? ⟨g, 0, none⟩ = some (.slice x0 x1 x2) ∧ W'.cell? ⟨g, 1, none⟩ = some (.int .i64 x3) ∧ W'.cell? ⟨g, 2, none⟩ = some (.int .u64 x4) ∧ W'.cell? ⟨g, 3, none⟩ = some (.slice x5 x6 x7) ∧ W'.cell? ⟨g, 4, none⟩ = some (.slice x8 x9 x10) ∧ W'.cell? ⟨g, 5, none⟩ = some (.slice x11 x12 x13) ∧ W'.cell? ⟨b5, o5 + s, none⟩ = some (.int .i64 xk) ∧ W'.cell? ⟨b1, o1 + s, none⟩ = some (.slice (some ⟨b3, o3, none⟩) ln vc) ∧ W'.cell? ⟨b3, o3, none⟩ = some (.int .u64 (pn : Int))) from fun W' h => by
                  have e0 := (h.block _ (lt_heap G2)).trans G2
                  exact ⟨cell_of e0 rfl, cell_of e0 rfl, cell_of e0 rfl, cell_of e0 rfl, cell_of e0 rfl, cell_of e0 rfl, (h.cell (p := ⟨b5, o5 + s, none⟩) (lt_of_cell hcl2)).trans hcl2, (h.cell (p := ⟨b1, o1 + s, none⟩) (lt_of_cell hc1)).trans hc1, (h.cell (p := ⟨b3, o3 + 0, none⟩) (lt_of_cell hc3)).trans hc3⟩)
                have hsm1 : (s : Int) < (m : Int) := by rw [HML.out]; omega
                have hl0 : (0 : Int) < (ln : Int) := by omega
                clear hbe G2 hsc hb1 hc1 hkv hb3 hc3 hrz hpn hln hcl2
                go_cut [24, 25] (fun s24 s25 W => ∃ gn, s24 = .pointer (some ⟨gn, 0, none⟩) ∧ s25 = .int .i64 rz.2 ∧ Hid (BoxN W gn rz.1) ∧ Hid (Below W13.heap.size W13 W))
                case first =>
                  refine anyL_begin (z := 17) (S := fun W9 => Below W13.heap.size W13 W9) (by kernel_rfl) (Below.drew (Below.refl _ _)) (fun hHeld => ?_)
                  refine AnyL.takeD (i := 0) (d := some 158) (v := ?_) rfl rfl (by kernel_rfl) (by kernel_rfl) (fun _ _ _ h => h) (by kernel_rfl) (by kernel_rfl) (by kernel_rfl) (Or.inl ⟨by rfl, ?_⟩) hHeld ?_
                  rotate_left 1
                  focus (intro w hSw; (try dsimp only at hSw); obtain ⟨c0, c1, c2, c3, c4, c5, ck, cv, cn⟩ := HC.out w hSw; go_simp; (try with_reducible rfl))
                  (repeat (first | simp only [Act.put] | simp only [List.setIfInBounds_toArray] | simp only [List.set_cons_zero] | simp only [List.set_cons_succ]))
                  refine AnyL.takeD (i := 1) (d := some 159) (v := ?_) rfl rfl (by kernel_rfl) (by kernel_rfl) (fun _ _ _ h => h) (by kernel_rfl) (by kernel_rfl) (by kernel_rfl) (Or.inl ⟨by rfl, ?_⟩) hHeld ?_
                  rotate_left 1
                  focus (intro w hSw; (try dsimp only at hSw); go_simp; (try with_reducible rfl))
                  (repeat (first | simp only [Act.put] | simp only [List.setIfInBounds_toArray] | simp only [List.set_cons_zero] | simp only [List.set_cons_succ]))
                  refine AnyL.takeD (i := 2) (d := some 160) (v := ?_) rfl rfl (by kernel_rfl) (by kernel_rfl) (fun _ _ _ h => h) (by kernel_rfl) (by kernel_rfl) (by kernel_rfl) (Or.inl ⟨by rfl, ?_⟩) hHeld ?_
                  rotate_left 1
                  focus (intro w hSw; (try dsimp only at hSw); go_simp; (try with_reducible rfl))
                  (repeat (first | simp only [Act.put] | simp only [List.setIfInBounds_toArray] | simp only [List.set_cons_zero] | simp only [List.set_cons_succ]))
                  refine AnyL.takeD (i := 3) (d := some 161) (v := ?_) rfl rfl (by kernel_rfl) (by kernel_rfl) (fun _ _ _ h => h) (by kernel_rfl) (by kernel_rfl) (by kernel_rfl) (Or.inl ⟨by rfl, ?_⟩) hHeld ?_
                  rotate_left 1
                  focus (intro w hSw; (try dsimp only at hSw); go_simp; (try with_reducible rfl))
                  (repeat (first | simp only [Act.put] | simp only [List.setIfInBounds_toArray] | simp only [List.set_cons_zero] | simp only [List.set_cons_succ]))
                  refine AnyL.takeD (i := 4) (d := some 162) (v := ?_) rfl rfl (by kernel_rfl) (by kernel_rfl) (fun _ _ _ h => h) (by kernel_rfl) (by kernel_rfl) (by kernel_rfl) (Or.inl ⟨by rfl, ?_⟩) hHeld ?_
                  rotate_left 1
                  focus (intro w hSw; (try dsimp only at hSw); obtain ⟨c0, c1, c2, c3, c4, c5, ck, cv, cn⟩ := HC.out w hSw; go_simp; (try with_reducible rfl))
                  (repeat (first | simp only [Act.put] | simp only [List.setIfInBounds_toArray] | simp only [List.set_cons_zero] | simp only [List.set_cons_succ]))
                  refine AnyL.takeD (i := 5) (d := some 163) (v := ?_) rfl rfl (by kernel_rfl) (by kernel_rfl) (fun _ _ _ h => h) (by kernel_rfl) (by kernel_rfl) (by kernel_rfl) (Or.inl ⟨by rfl, ?_⟩) hHeld ?_
                  rotate_left 1
                  focus (intro w hSw; (try dsimp only at hSw); go_simp; (try with_reducible rfl))
                  (repeat (first | simp only [Act.put] | simp only [List.setIfInBounds_toArray] | simp only [List.set_cons_zero] | simp only [List.set_cons_succ]))
                  refine AnyL.takeD (i := 6) (d := some 164) (v := ?_) rfl rfl (by kernel_rfl) (by kernel_rfl) (fun _ _ _ h => h) (by kernel_rfl) (by kernel_rfl) (by kernel_rfl) (Or.inl ⟨by rfl, ?_⟩) hHeld ?_
                  rotate_left 1
                  focus (intro w hSw; (try dsimp only at hSw); go_simp; (try with_reducible rfl))
                  (repeat (first | simp only [Act.put] | simp only [List.setIfInBounds_toArray] | simp only [List.set_cons_zero] | simp only [List.set_cons_succ]))
                  refine AnyL.takeD (i := 7) (d := some 165) (v := ?_) rfl rfl (by kernel_rfl) (by kernel_rfl) (fun _ _ _ h => h) (by kernel_rfl) (by kernel_rfl) (by kernel_rfl) (Or.inl ⟨by rfl, ?_⟩) hHeld ?_
                  rotate_left 1
                  focus (intro w hSw; (try dsimp only at hSw); go_simp; (try with_reducible rfl))
                  (repeat (first | simp only [Act.put] | simp only [List.setIfInBounds_toArray] | simp only [List.set_cons_zero] | simp only [List.set_cons_succ]))
                  refine AnyL.takeD (i := 8) (d := some 166) (v := ?_) rfl rfl (by kernel_rfl) (by kernel_rfl) (fun _ _ _ h => h) (by kernel_rfl) (by kernel_rfl) (by kernel_rfl) (Or.inl ⟨by rfl, ?_⟩) hHeld ?_
                  rotate_left 1
                  focus (intro w hSw; (try dsimp only at hSw); obtain ⟨c0, c1, c2, c3, c4, c5, ck, cv, cn⟩ := HC.out w hSw; go_simp; (try with_reducible rfl))
                  (repeat (first | simp only [Act.put] | simp only [List.setIfInBounds_toArray] | simp only [List.set_cons_zero] | simp only [List.set_cons_succ]))
                  refine AnyL.takeD (i := 9) (d := some 167) (v := ?_) rfl rfl (by kernel_rfl) (by kernel_rfl) (fun _ _ _ h => h) (by kernel_rfl) (by kernel_rfl) (by kernel_rfl) (Or.inl ⟨by rfl, ?_⟩) hHeld ?_
                  rotate_left 1
                  focus (intro w hSw; (try dsimp only at hSw); go_simp; (try with_reducible rfl))
                  (repeat (first | simp only [Act.put] | simp only [List.setIfInBounds_toArray] | simp only [List.set_cons_zero] | simp only [List.set_cons_succ]))
                  refine AnyL.takeD (i := 10) (d := some 168) (v := ?_) rfl rfl (by kernel_rfl) (by kernel_rfl) (fun _ _ _ h => h) (by kernel_rfl) (by kernel_rfl) (by kernel_rfl) (Or.inl ⟨by rfl, ?_⟩) hHeld ?_
                  rotate_left 1
                  focus (intro w hSw; (try dsimp only at hSw); obtain ⟨c0, c1, c2, c3, c4, c5, ck, cv, cn⟩ := HC.out w hSw; go_simp; (try with_reducible rfl))
                  (repeat (first | simp only [Act.put] | simp only [List.setIfInBounds_toArray] | simp only [List.set_cons_zero] | simp only [List.set_cons_succ]))
                  refine AnyL.takeD (i := 11) (d := some 169) (v := ?_) rfl rfl (by kernel_rfl) (by kernel_rfl) (fun _ _ _ h => h) (by kernel_rfl) (by kernel_rfl) (by kernel_rfl) (Or.inl ⟨by rfl, ?_⟩) hHeld ?_
                  rotate_left 1
                  focus (intro w hSw; (try dsimp only at hSw); go_simp; (try with_reducible rfl))
                  (repeat (first | simp only [Act.put] | simp only [List.setIfInBounds_toArray] | simp only [List.set_cons_zero] | simp only [List.set_cons_succ]))
                  have HBa : Hid (Below W13.heap.size W13 W13.drew) := Lib.hid (Below.drew (Below.refl _ _))
                  refine AnyL.two (i := 12) (j := 16) (by kernel_rfl) rfl rfl (fun K hK => ?_) (fun K hK => ?_)
                  · skip
                    go_simp
                    go_at_call 15
                    refine ((D1.out _ HBa.out).out).mono ?_
                    rintro e w7 ⟨bv, rfl, hbv, hb7⟩
                    have HB7 := Lib.hid (HBa.out.trans (hb7.mono HBa.out.size))
                    obtain ⟨gn, hgn⟩ : ∃ g, g = w7.heap.size := ⟨_, rfl⟩
                    have HGN : Hid (W13.heap.size ≤ gn) := Lib.hid (by rw [hgn]; exact HB7.out.size)
                    have hbv := IsBea.mono (M' := fun q => q ≠ gn) hbv (fun q hql _ => by show q ≠ gn; omega)
                    obtain ⟨z0, z1, z2, z3, z4, z5, z6, z7, z8, z9, z10, z11, z12, z13, rfl⟩ := hbv.shape
                    have HGE := Lib.hid hgn
                    have HBV7 := Lib.hid hbv
                    clear hbv hb7 hgn
                    refine hK.out _ _ (fun _ => HB7.out) (fun hHeld => ?_)
                    replace hHeld := hHeld (by kernel_rfl)
                    clear hK K
                    (repeat (first | simp only [Act.put] | simp only [List.setIfInBounds_toArray] | simp only [List.set_cons_zero] | simp only [List.set_cons_succ]))
                    refine AnyL.takeD (i := 13) (d := some 157) (v := ?_) rfl rfl (by kernel_rfl) (by kernel_rfl) (fun _ _ _ h => h) (by kernel_rfl) (by kernel_rfl) (by kernel_rfl) (Or.inl ⟨by rfl, ?_⟩) hHeld ?_
                    rotate_left 1
                    focus (intro w hSw; (try dsimp only at hSw); go_simp; (try with_reducible rfl))
                    (repeat (first | simp only [Act.put] | simp only [List.setIfInBounds_toArray] | simp only [List.set_cons_zero] | simp only [List.set_cons_succ]))
                    refine AnyL.takeD (i := 14) (d := some 171) (v := ?_) rfl rfl (by kernel_rfl) (by kernel_rfl) (fun _ _ _ h => h) (by kernel_rfl) (by kernel_rfl) (by kernel_rfl) (Or.inl ⟨by rfl, ?_⟩) hHeld ?_
                    rotate_left 1
                    focus (intro w hSw; (try dsimp only at hSw); go_simp; (try with_reducible rfl))
                    (repeat (first | simp only [Act.put] | simp only [List.setIfInBounds_toArray] | simp only [List.set_cons_zero] | simp only [List.set_cons_succ]))
                    refine AnyL.lateD (i := 15) (d := some 172) (v := ?_) rfl rfl (by kernel_rfl) (by kernel_rfl) (fun _ _ _ h => h) (by kernel_rfl) (by kernel_rfl) (Or.inl ⟨by rfl, ?_⟩) (fun _ => hHeld) ?_
                    rotate_left 1
                    focus (intro w hSw; (try dsimp only at hSw); go_simp; (try with_reducible rfl))
                    (repeat (first | simp only [Act.put] | simp only [List.setIfInBounds_toArray] | simp only [List.set_cons_zero] | simp only [List.set_cons_succ]))
                    refine AnyL.one (i := 16) (by kernel_rfl) rfl (fun K hK => ?_)
                    go_simp
                    refine nameG (w := w7.alloc (.cells #[.slice none 0 0, .int .i64 0, .int .u64 0, .slice none 0 0, .slice none 0 0, .slice none 0 0] 32)) (p := fun W => K _ W) fun w8 hw8 => ?_
                    have hb8w : Below w7.heap.size w7 w8 := by rw [hw8.out]; exact (Below.refl _ _).alloc (Nat.le_refl _) _
                    have g8 : w8.heap[gn]? = some (.cells #[.slice none 0 0, .int .i64 0, .int .u64 0, .slice none 0 0, .slice none 0 0, .slice none 0 0] 32 (0, 0)) := by rw [hw8.out, HGE.out]; exact heap_alloc_new _ _
                    rw [← HGE.out]
                    have HB8 := Lib.hid (HB7.out.trans (hb8w.mono HB7.out.size))
                    have HBV8 := Lib.hid (HBV7.out.below hb8w)
                    have G8 := Lib.hid g8
                    obtain ⟨⟨c0, c1, c2, c3, c4, c5⟩, ⟨f0, f1, f2, f3, f4, f5⟩⟩ := blk6 g8
                    clear hb8w g8 hw8 HB7
                    refine hK.out _ _ (fun _ => HB8.out) (fun hHeld => ?_)
                    replace hHeld := hHeld (by kernel_rfl)
                    clear hK K
                    (repeat (first | simp only [Act.put] | simp only [List.setIfInBounds_toArray] | simp only [List.set_cons_zero] | simp only [List.set_cons_succ]))
                    refine AnyL.one (i := 17) (by kernel_rfl) rfl (fun K hK => ?_)
                    go_simp
                    refine hK.out _ _ (fun h => nomatch (show true = false from h)) (fun _ => ?_)
                    clear hK K
                    (try dsimp only)
                    refine AnyL.one (i := 18) (by kernel_rfl) rfl (fun K hK => ?_)
                    go_simp
                    refine hK.out _ _ (fun h => nomatch (show true = false from h)) (fun _ => ?_)
                    clear hK K
                    (try dsimp only)
                    refine AnyL.done (by kernel_rfl) ?_
                    clear c0 c1 c2 c3 c4 c5 f0 f1 f2 f3 f4 f5
                    go_wp2_with fail
                    go_meet
                    case rel => exact ⟨gn, rfl, rfl, Lib.hid ⟨z0, z1, z2, z3, z4, z5, z6, z7, z8, z9, z10, z11, z12, z13, w6_at G8.out _ _ _ _ _ _, HBV8.out.keep fun p hp _ => World.cell?_of_block (w := w8) (w6_other hp _ _ _ _ _ _)⟩, Lib.hid (w6_below HB8.out HGN.out _ _ _ _ _ _)⟩
                  · skip
                    go_simp
                    refine nameG (w := W13.drew.alloc (.cells #[.slice none 0 0, .int .i64 0, .int .u64 0, .slice none 0 0, .slice none 0 0, .slice none 0 0] 32)) (p := fun W => K _ W) fun w7 hw7 => ?_
                    obtain ⟨gn, hgn⟩ : ∃ g, g = W13.heap.size := ⟨_, rfl⟩
                    have HGN : Hid (W13.heap.size ≤ gn) := Lib.hid (by rw [hgn]; exact Nat.le_refl _)
                    have g7 : w7.heap[gn]? = some (.cells #[.slice none 0 0, .int .i64 0, .int .u64 0, .slice none 0 0, .slice none 0 0, .slice none 0 0] 32 (0, 0)) := by rw [hw7.out, hgn]; exact heap_alloc_new _ _
                    have HB7 : Hid (Below W13.heap.size W13 w7) := Lib.hid (by rw [hw7.out]; exact HBa.out.alloc HBa.out.size _)
                    have HS7 : Hid (w7.heap.size = W13.heap.size + 1 ∧ gn = W13.heap.size) := Lib.hid ⟨by rw [hw7.out]; simp, hgn⟩
                    rw [← hgn]
                    have G7 := Lib.hid g7
                    clear hgn g7 hw7
                    refine hK.out _ _ (fun _ => HB7.out) (fun hHeld => ?_)
                    replace hHeld := hHeld (by kernel_rfl)
                    clear hK K
                    (repeat (first | simp only [Act.put] | simp only [List.setIfInBounds_toArray] | simp only [List.set_cons_zero] | simp only [List.set_cons_succ]))
                    refine AnyL.one (i := 12) (by kernel_rfl) rfl (fun K hK => ?_)
                    go_simp
                    go_at_call 15
                    refine ((D1.out _ HB7.out).out).mono ?_
                    rintro e w8 ⟨bv, rfl, hbv, hb8⟩
                    have HB8 := Lib.hid (HB7.out.trans (hb8.mono HB7.out.size))
                    have hs7 := HS7.out
                    have g8 := (hb8.block _ (lt_heap G7.out)).trans G7.out
                    have hbv := IsBea.mono (M' := fun q => q ≠ gn) hbv (fun q _ hq => by
                      show q ≠ gn
                      rcases hq with hq | hq <;> omega)
                    obtain ⟨z0, z1, z2, z3, z4, z5, z6, z7, z8, z9, z10, z11, z12, z13, rfl⟩ := hbv.shape
                    have HBV8 := Lib.hid hbv
                    have G8 := Lib.hid g8
                    clear hs7
                    obtain ⟨⟨c0, c1, c2, c3, c4, c5⟩, ⟨f0, f1, f2, f3, f4, f5⟩⟩ := blk6 g8
                    clear hbv hb8 g8 HB7 G7
                    refine hK.out _ _ (fun _ => HB8.out) (fun hHeld => ?_)
                    replace hHeld := hHeld (by kernel_rfl)
                    clear hK K
                    (repeat (first | simp only [Act.put] | simp only [List.setIfInBounds_toArray] | simp only [List.set_cons_zero] | simp only [List.set_cons_succ]))
                    refine AnyL.takeD (i := 13) (d := some 157) (v := ?_) rfl rfl (by kernel_rfl) (by kernel_rfl) (fun _ _ _ h => h) (by kernel_rfl) (by kernel_rfl) (by kernel_rfl) (Or.inl ⟨by rfl, ?_⟩) hHeld ?_
                    rotate_left 1
                    focus (intro w hSw; (try dsimp only at hSw); go_simp; (try with_reducible rfl))
                    (repeat (first | simp only [Act.put] | simp only [List.setIfInBounds_toArray] | simp only [List.set_cons_zero] | simp only [List.set_cons_succ]))
                    refine AnyL.takeD (i := 14) (d := some 171) (v := ?_) rfl rfl (by kernel_rfl) (by kernel_rfl) (fun _ _ _ h => h) (by kernel_rfl) (by kernel_rfl) (by kernel_rfl) (Or.inl ⟨by rfl, ?_⟩) hHeld ?_
                    rotate_left 1
                    focus (intro w hSw; (try dsimp only at hSw); go_simp; (try with_reducible rfl))
                    (repeat (first | simp only [Act.put] | simp only [List.setIfInBounds_toArray] | simp only [List.set_cons_zero] | simp only [List.set_cons_succ]))
                    refine AnyL.lateD (i := 15) (d := some 172) (v := ?_) rfl rfl (by kernel_rfl) (by kernel_rfl) (fun _ _ _ h => h) (by kernel_rfl) (by kernel_rfl) (Or.inl ⟨by rfl, ?_⟩) (fun _ => hHeld) ?_
                    rotate_left 1
                    focus (intro w hSw; (try dsimp only at hSw); go_simp; (try with_reducible rfl))
                    (repeat (first | simp only [Act.put] | simp only [List.setIfInBounds_toArray] | simp only [List.set_cons_zero] | simp only [List.set_cons_succ]))
                    refine AnyL.one (i := 17) (by kernel_rfl) rfl (fun K hK => ?_)
                    go_simp
                    refine hK.out _ _ (fun h => nomatch (show true = false from h)) (fun _ => ?_)
                    clear hK K
                    (try dsimp only)
                    refine AnyL.one (i := 18) (by kernel_rfl) rfl (fun K hK => ?_)
                    go_simp
                    refine hK.out _ _ (fun h => nomatch (show true = false from h)) (fun _ => ?_)
                    clear hK K
                    (try dsimp only)
                    refine AnyL.done (by kernel_rfl) ?_
                    clear c0 c1 c2 c3 c4 c5 f0 f1 f2 f3 f4 f5
                    go_wp2_with fail
                    go_meet
                    case rel => exact ⟨gn, rfl, rfl, Lib.hid ⟨z0, z1, z2, z3, z4, z5, z6, z7, z8, z9, z10, z11, z12, z13, w6_at G8.out _ _ _ _ _ _, HBV8.out.keep fun p hp _ => World.cell?_of_block (w := w8) (w6_other hp _ _ _ _ _ _)⟩, Lib.hid (w6_below HB8.out HGN.out _ _ _ _ _ _)⟩
                case rest =>
                  obtain ⟨gn, rfl, rfl, HBC, HBd⟩ := hcut
                  rw [HRZ.out.1]
                  have HSM3 := Lib.hid (HRZ.out.2.1.small HST.out HWW.out)
                  have HB14 := Lib.hid (HB13.out.trans (HBd.out.mono HB13.out.size))
                  have HBX14 := Lib.hid (BoxN.below HBX13.out HBd.out)
                  have HM14 := Lib.hid (HM13.out.below HBd.out HM13.out.lt)
                  clear D1 HC HB13 HBX13 HM13 HBd HBE2
                  obtain ⟨u0, u1, u2, u3, u4, u5, u6, u7, u8, u9, u10, u11, u12, u13, hk, hbe⟩ := HBC.out
                  obtain ⟨⟨c0, c1, c2, c3, c4, c5⟩, ⟨f0, f1, f2, f3, f4, f5⟩⟩ := blk6 hk
                  clear hk
                  go_wp2_with fail
                  refine (number2_any _ _ _ rz.1 hbe HSM3.out).mono ?_
                  rintro e W15 ⟨rfl, hb15⟩
                  rw [HRZ.out.2.2]
                  dsimp only
                  have HB15 := Lib.hid (HB14.out.trans (hb15.mono HB14.out.size))
                  have HBX15 := Lib.hid (BoxN.below HBX14.out hb15)
                  have HM15 := Lib.hid (HM14.out.below hb15 HM14.out.lt)
                  clear hb15 hbe c0 c1 c2 c3 c4 c5 f0 f1 f2 f3 f4 f5 HB14 HBX14 HM14
                  have tw : ((wa : Int) != (wa : Int)) = false := by simp
                  go_wp2_with fail
                  go_roundw
                  case rel => exact ⟨k + 1, by omega, by go_num, b2, HOI2, HBX15, Lib.hid ⟨q + 1, by omega, by rw [← HOC.out]; exact HM15.out⟩, HB15⟩
                  case measure => simp [intOf]; omega
            · rw [if_neg ht] at HNU hmv ⊢
              obtain ⟨mA, mc, rfl, -⟩ := id hmv
              obtain ⟨b6, o6, rfl, -, hcl6⟩ := IsInts.at_ (k := 0) hmv (Below.refl _ _) (Nat.le_refl 1)
              rw [show nthI [xk] 0 = xk from rfl, Nat.add_zero] at hcl6
              have ht1 : decide (t ≤ (oc : Int)) = false := decide_eq_false ht
              have ht2 : (oc : Int) < t := by omega
              have tx : (xk != xk) = false := by simp
              dsimp only
              go_upto_region 27 with fail
              go_cut [151] (fun s151 W => s151 = .bool false ∧ ∃ m, W = W11.drewN m)
              case first =>
                go_quiet (fail)
                go_wp2_with fail
                go_meet
                case rel => exact ⟨rfl, _, rfl⟩
              case rest =>
                obtain ⟨rfl, mm, rfl⟩ := hcut
                obtain ⟨W12, hW12⟩ : ∃ W, W = W11.drewN mm := ⟨_, rfl⟩
                have hb12 : Below W11.heap.size W11 W12 := by rw [hW12]; exact below_drewN (Below.refl _ _) _
                rw [← hW12]
                have HB12 := Lib.hid (HB11.out.trans (hb12.mono HB11.out.size))
                have HBX12 := Lib.hid (BoxN.below HBX11.out hb12)
                have HM12 := Lib.hid (HM11.out.below hb12 HM11.out.lt)
                have HCS12 := Lib.hid ((hb12.cell (p := ⟨b5, o5 + s, none⟩) (lt_of_cell HCS.out)).trans HCS.out)
                clear hW12 hb12 hlen HB11 HBX11 HM11 hcs hmv hcl6
                obtain ⟨x0, x1, x2, x3, x4, x5, x6, x7, x8, x9, x10, x11, x12, x13, hk, hbe⟩ := HBX12.out
                obtain ⟨⟨c0, c1, c2, c3, c4, c5⟩, ⟨f0, f1, f2, f3, f4, f5⟩⟩ := blk6 hk
                clear hk
                go_wp2_with fail
                refine (number2_any W12 _ _ b2 hbe HSM2.out).mono ?_
                rintro e W13 ⟨rfl, hb13⟩
                rw [HNU.out]
                dsimp only
                have HB13 := Lib.hid (HB12.out.trans (hb13.mono HB12.out.size))
                have HBX13 := Lib.hid (BoxN.below HBX12.out hb13)
                have HM13 := Lib.hid (HM12.out.below hb13 HM12.out.lt)
                have hcl2 := (hb13.cell (p := ⟨b5, o5 + s, none⟩) (lt_of_cell HCS12.out)).trans HCS12.out
                clear hb13 hbe c0 c1 c2 c3 c4 c5 f0 f1 f2 f3 f4 f5 HB12 HBX12 HM12 HCS12
                go_upto_region 30 with fail
                obtain ⟨x0, x1, x2, x3, x4, x5, x6, x7, x8, x9, x10, x11, x12, x13, G2, hbe⟩ := HBX13.out
                have HBE2 := Lib.hid (IsBea.mono (M' := fun q => q < W13.heap.size) hbe (fun q h _ => h))
                have hsc : s < cl.length := by rw [← HN.out]; exact hsn
                obtain ⟨b1, o1, vA, vc, rfl, hb1, hc1, hkv⟩ := HP.out.at_ HB13.out (show s < ps.length by rw [HST.out.len]; exact hsc)
                have hp1 : 0 < (polN ps s).length := pol_ne HST.out hsc
                obtain ⟨b3, o3, rfl, hb3, hc3⟩ := IsU64.at_ hkv (Below.refl _ _) hp1
                rw [show (polN ps s)[0] = p0 ps s by unfold p0; rw [List.getD_eq_getElem?_getD, List.getElem?_eq_getElem hp1]; rfl] at hc3
                have D1 := Lib.hid (fun (W : World) (hW : Below W13.heap.size W13 W) => Lib.hid (reveal_any W _ _ b2 ⟨nthI cl s, p0 ps s⟩ (HBE2.out.below hW) HSM2.out (HWW.out s hsc) (Nat.lt_trans (pol_lt HST.out hsc).1 (by decide))))
                obtain ⟨rz, hrz⟩ : ∃ z, z = revealD b2 ⟨nthI cl s, p0 ps s⟩ := ⟨_, rfl⟩
                have HRZ := Lib.hid (show rz.2 = 0 ∧ Ov cl t of ps rz.1 ∧ numD rz.1 = (wa, 0) from by rw [hrz, HRE.out.1]; exact ⟨rfl, HRE.out.2.1, HRE.out.2.2⟩)
                rw [← hrz, ← HXK.out] at D1
                dsimp only at D1
                obtain ⟨pn, hpn⟩ : ∃ z, z = p0 ps s := ⟨_, rfl⟩
                obtain ⟨ln, hln⟩ : ∃ z, z = (polN ps s).length := ⟨_, rfl⟩
                rw [← hpn] at hc3 D1
                rw [← hln] at hc1 hp1
                have HC := Lib.hid (show ∀ W', Below W13.heap.size W13 W' → (W'.cell? ⟨g, 0, none⟩ = some (.slice x0 x1 x2) ∧ W'.cell? ⟨g, 1, none⟩ = some (.int .i64 x3) ∧ W'.cell? ⟨g, 2, none⟩ = some (.int .u64 x4) ∧ W'.cell? ⟨g, 3, none⟩ = some (.slice x5 x6 x7) ∧ W'.cell? ⟨g, 4, none⟩ = some (.slice x8 x9 x10) ∧ W'.cell? ⟨g, 5, none⟩ = some (.slice x11 x12 x13) ∧ W'.cell? ⟨b5, o5 + s, none⟩ = some (.int .i64 xk) ∧ W'.cell? ⟨b1, o1 + s, none⟩ = some (.slice (some ⟨b3, o3, none⟩) ln vc) ∧ W'.cell? ⟨b3, o3, none⟩ = some (.int .u64 (pn : Int))) from fun W' h => by
                  have e0 := (h.block _ (lt_heap G2)).trans G2
                  exact ⟨cell_of e0 rfl, cell_of e0 rfl, cell_of e0 rfl, cell_of e0 rfl, cell_of e0 rfl, cell_of e0 rfl, (h.cell (p := ⟨b5, o5 + s, none⟩) (lt_of_cell hcl2)).trans hcl2, (h.cell (p := ⟨b1, o1 + s, none⟩) (lt_of_cell hc1)).trans hc1, (h.cell (p := ⟨b3, o3 + 0, none⟩) (lt_of_cell hc3)).trans hc3⟩)
                have hsm1 : (s : Int) < (m : Int) := by rw [HML.out]; omega
                have hl0 : (0 : Int) < (ln : Int) := by omega
                clear hbe G2 hsc hb1 hc1 hkv hb3 hc3 hrz hpn hln hcl2
                go_cut [24, 25] (fun s24 s25 W => ∃ gn, s24 = .pointer (some ⟨gn, 0, none⟩) ∧ s25 = .int .i64 rz.2 ∧ Hid (BoxN W gn rz.1) ∧ Hid (Below W13.heap.size W13 W))
                case first =>
                  refine anyL_begin (z := 17) (S := fun W9 => Below W13.heap.size W13 W9) (by kernel_rfl) (Below.drew (Below.refl _ _)) (fun hHeld => ?_)
                  refine AnyL.takeD (i := 0) (d := some 158) (v := ?_) rfl rfl (by kernel_rfl) (by kernel_rfl) (fun _ _ _ h => h) (by kernel_rfl) (by kernel_rfl) (by kernel_rfl) (Or.inl ⟨by rfl, ?_⟩) hHeld ?_
                  rotate_left 1
                  focus (intro w hSw; (try dsimp only at hSw); obtain ⟨c0, c1, c2, c3, c4, c5, ck, cv, cn⟩ := HC.out w hSw; go_simp; (try with_reducible rfl))
                  (repeat (first | simp only [Act.put] | simp only [List.setIfInBounds_toArray] | simp only [List.set_cons_zero] | simp only [List.set_cons_succ]))
                  refine AnyL.takeD (i := 1) (d := some 159) (v := ?_) rfl rfl (by kernel_rfl) (by kernel_rfl) (fun _ _ _ h => h) (by kernel_rfl) (by kernel_rfl) (by kernel_rfl) (Or.inl ⟨by rfl, ?_⟩) hHeld ?_
                  rotate_left 1
                  focus (intro w hSw; (try dsimp only at hSw); go_simp; (try with_reducible rfl))
                  (repeat (first | simp only [Act.put] | simp only [List.setIfInBounds_toArray] | simp only [List.set_cons_zero] | simp only [List.set_cons_succ]))
                  refine AnyL.takeD (i := 2) (d := some 160) (v := ?_) rfl rfl (by kernel_rfl) (by kernel_rfl) (fun _ _ _ h => h) (by kernel_rfl) (by kernel_rfl) (by kernel_rfl) (Or.inl ⟨by rfl, ?_⟩) hHeld ?_
                  rotate_left 1
                  focus (intro w hSw; (try dsimp only at hSw); go_simp; (try with_reducible rfl))
                  (repeat (first | simp only [Act.put] | simp only [List.setIfInBounds_toArray] | simp only [List.set_cons_zero] | simp only [List.set_cons_succ]))
                  refine AnyL.takeD (i := 3) (d := some 161) (v := ?_) rfl rfl (by kernel_rfl) (by kernel_rfl) (fun _ _ _ h => h) (by kernel_rfl) (by kernel_rfl) (by kernel_rfl) (Or.inl ⟨by rfl, ?_⟩) hHeld ?_
                  rotate_left 1
                  focus (intro w hSw; (try dsimp only at hSw); go_simp; (try with_reducible rfl))
                  (repeat (first | simp only [Act.put] | simp only [List.setIfInBounds_toArray] | simp only [List.set_cons_zero] | simp only [List.set_cons_succ]))
                  refine AnyL.takeD (i := 4) (d := some 162) (v := ?_) rfl rfl (by kernel_rfl) (by kernel_rfl) (fun _ _ _ h => h) (by kernel_rfl) (by kernel_rfl) (by kernel_rfl) (Or.inl ⟨by rfl, ?_⟩) hHeld ?_
                  rotate_left 1
                  focus (intro w hSw; (try dsimp only at hSw); obtain ⟨c0, c1, c2, c3, c4, c5, ck, cv, cn⟩ := HC.out w hSw; go_simp; (try with_reducible rfl))
                  (repeat (first | simp only [Act.put] | simp only [List.setIfInBounds_toArray] | simp only [List.set_cons_zero] | simp only [List.set_cons_succ]))
                  refine AnyL.takeD (i := 5) (d := some 163) (v := ?_) rfl rfl (by kernel_rfl) (by kernel_rfl) (fun _ _ _ h => h) (by kernel_rfl) (by kernel_rfl) (by kernel_rfl) (Or.inl ⟨by rfl, ?_⟩) hHeld ?_
                  rotate_left 1
                  focus (intro w hSw; (try dsimp only at hSw); go_simp; (try with_reducible rfl))
                  (repeat (first | simp only [Act.put] | simp only [List.setIfInBounds_toArray] | simp only [List.set_cons_zero] | simp only [List.set_cons_succ]))
                  refine AnyL.takeD (i := 6) (d := some 164) (v := ?_) rfl rfl (by kernel_rfl) (by kernel_rfl) (fun _ _ _ h => h) (by kernel_rfl) (by kernel_rfl) (by kernel_rfl) (Or.inl ⟨by rfl, ?_⟩) hHeld ?_
                  rotate_left 1
                  focus (intro w hSw; (try dsimp only at hSw); go_simp; (try with_reducible rfl))
                  (repeat (first | simp only [Act.put] | simp only [List.setIfInBounds_toArray] | simp only [List.set_cons_zero] | simp only [List.set_cons_succ]))
                  refine AnyL.takeD (i := 7) (d := some 165) (v := ?_) rfl rfl (by kernel_rfl) (by kernel_rfl) (fun _ _ _ h => h) (by kernel_rfl) (by kernel_rfl) (by kernel_rfl) (Or.inl ⟨by rfl, ?_⟩) hHeld ?_
                  rotate_left 1
                  focus (intro w hSw; (try dsimp only at hSw); go_simp; (try with_reducible rfl))
                  (repeat (first | simp only [Act.put] | simp only [List.setIfInBounds_toArray] | simp only [List.set_cons_zero] | simp only [List.set_cons_succ]))
                  refine AnyL.takeD (i := 8) (d := some 166) (v := ?_) rfl rfl (by kernel_rfl) (by kernel_rfl) (fun _ _ _ h => h) (by kernel_rfl) (by kernel_rfl) (by kernel_rfl) (Or.inl ⟨by rfl, ?_⟩) hHeld ?_
                  rotate_left 1
                  focus (intro w hSw; (try dsimp only at hSw); obtain ⟨c0, c1, c2, c3, c4, c5, ck, cv, cn⟩ := HC.out w hSw; go_simp; (try with_reducible rfl))
                  (repeat (first | simp only [Act.put] | simp only [List.setIfInBounds_toArray] | simp only [List.set_cons_zero] | simp only [List.set_cons_succ]))
                  refine AnyL.takeD (i := 9) (d := some 167) (v := ?_) rfl rfl (by kernel_rfl) (by kernel_rfl) (fun _ _ _ h => h) (by kernel_rfl) (by kernel_rfl) (by kernel_rfl) (Or.inl ⟨by rfl, ?_⟩) hHeld ?_
                  rotate_left 1
                  focus (intro w hSw; (try dsimp only at hSw); go_simp; (try with_reducible rfl))
                  (repeat (first | simp only [Act.put] | simp only [List.setIfInBounds_toArray] | simp only [List.set_cons_zero] | simp only [List.set_cons_succ]))
                  refine AnyL.takeD (i := 10) (d := some 168) (v := ?_) rfl rfl (by kernel_rfl) (by kernel_rfl) (fun _ _ _ h => h) (by kernel_rfl) (by kernel_rfl) (by kernel_rfl) (Or.inl ⟨by rfl, ?_⟩) hHeld ?_
                  rotate_left 1
                  focus (intro w hSw; (try dsimp only at hSw); obtain ⟨c0, c1, c2, c3, c4, c5, ck, cv, cn⟩ := HC.out w hSw; go_simp; (try with_reducible rfl))
                  (repeat (first | simp only [Act.put] | simp only [List.setIfInBounds_toArray] | simp only [List.set_cons_zero] | simp only [List.set_cons_succ]))
                  refine AnyL.takeD (i := 11) (d := some 169) (v := ?_) rfl rfl (by kernel_rfl) (by kernel_rfl) (fun _ _ _ h => h) (by kernel_rfl) (by kernel_rfl) (by kernel_rfl) (Or.inl ⟨by rfl, ?_⟩) hHeld ?_
                  rotate_left 1
                  focus (intro w hSw; (try dsimp only at hSw); go_simp; (try with_reducible rfl))
                  (repeat (first | simp only [Act.put] | simp only [List.setIfInBounds_toArray] | simp only [List.set_cons_zero] | simp only [List.set_cons_succ]))
                  have HBa : Hid (Below W13.heap.size W13 W13.drew) := Lib.hid (Below.drew (Below.refl _ _))
                  refine AnyL.two (i := 12) (j := 16) (by kernel_rfl) rfl rfl (fun K hK => ?_) (fun K hK => ?_)
                  · skip
                    go_simp
                    go_at_call 15
                    refine ((D1.out _ HBa.out).out).mono ?_
                    rintro e w7 ⟨bv, rfl, hbv, hb7⟩
                    have HB7 := Lib.hid (HBa.out.trans (hb7.mono HBa.out.size))
                    obtain ⟨gn, hgn⟩ : ∃ g, g = w7.heap.size := ⟨_, rfl⟩
                    have HGN : Hid (W13.heap.size ≤ gn) := Lib.hid (by rw [hgn]; exact HB7.out.size)
                    have hbv := IsBea.mono (M' := fun q => q ≠ gn) hbv (fun q hql _ => by show q ≠ gn; omega)
                    obtain ⟨z0, z1, z2, z3, z4, z5, z6, z7, z8, z9, z10, z11, z12, z13, rfl⟩ := hbv.shape
                    have HGE := Lib.hid hgn
                    have HBV7 := Lib.hid hbv
                    clear hbv hb7 hgn
                    refine hK.out _ _ (fun _ => HB7.out) (fun hHeld => ?_)
                    replace hHeld := hHeld (by kernel_rfl)
                    clear hK K
                    (repeat (first | simp only [Act.put] | simp only [List.setIfInBounds_toArray] | simp only [List.set_cons_zero] | simp only [List.set_cons_succ]))
                    refine AnyL.takeD (i := 13) (d := some 157) (v := ?_) rfl rfl (by kernel_rfl) (by kernel_rfl) (fun _ _ _ h => h) (by kernel_rfl) (by kernel_rfl) (by kernel_rfl) (Or.inl ⟨by rfl, ?_⟩) hHeld ?_
                    rotate_left 1
                    focus (intro w hSw; (try dsimp only at hSw); go_simp; (try with_reducible rfl))
                    (repeat (first | simp only [Act.put] | simp only [List.setIfInBounds_toArray] | simp only [List.set_cons_zero] | simp only [List.set_cons_succ]))
                    refine AnyL.takeD (i := 14) (d := some 171) (v := ?_) rfl rfl (by kernel_rfl) (by kernel_rfl) (fun _ _ _ h => h) (by kernel_rfl) (by kernel_rfl) (by kernel_rfl) (Or.inl ⟨by rfl, ?_⟩) hHeld ?_
                    rotate_left 1
                    focus (intro w hSw; (try dsimp only at hSw); go_simp; (try with_reducible rfl))
                    (repeat (first | simp only [Act.put] | simp only [List.setIfInBounds_toArray] | simp only [List.set_cons_zero] | simp only [List.set_cons_succ]))
                    refine AnyL.lateD (i := 15) (d := some 172) (v := ?_) rfl rfl (by kernel_rfl) (by kernel_rfl) (fun _ _ _ h => h) (by kernel_rfl) (by kernel_rfl) (Or.inl ⟨by rfl, ?_⟩) (fun _ => hHeld) ?_
                    rotate_left 1
                    focus (intro w hSw; (try dsimp only at hSw); go_simp; (try with_reducible rfl))
                    (repeat (first | simp only [Act.put] | simp only [List.setIfInBounds_toArray] | simp only [List.set_cons_zero] | simp only [List.set_cons_succ]))
                    refine AnyL.one (i := 16) (by kernel_rfl) rfl (fun K hK => ?_)
                    go_simp
                    refine nameG (w := w7.alloc (.cells #[.slice none 0 0, .int .i64 0, .int .u64 0, .slice none 0 0, .slice none 0 0, .slice none 0 0] 32)) (p := fun W => K _ W) fun w8 hw8 => ?_
                    have hb8w : Below w7.heap.size w7 w8 := by rw [hw8.out]; exact (Below.refl _ _).alloc (Nat.le_refl _) _
                    have g8 : w8.heap[gn]? = some (.cells #[.slice none 0 0, .int .i64 0, .int .u64 0, .slice none 0 0, .slice none 0 0, .slice none 0 0] 32 (0, 0)) := by rw [hw8.out, HGE.out]; exact heap_alloc_new _ _
                    rw [← HGE.out]
                    have HB8 := Lib.hid (HB7.out.trans (hb8w.mono HB7.out.size))
                    have HBV8 := Lib.hid (HBV7.out.below hb8w)
                    have G8 := Lib.hid g8
                    obtain ⟨⟨c0, c1, c2, c3, c4, c5⟩, ⟨f0, f1, f2, f3, f4, f5⟩⟩ := blk6 g8
                    clear hb8w g8 hw8 HB7
                    refine hK.out _ _ (fun _ => HB8.out) (fun hHeld => ?_)
                    replace hHeld := hHeld (by kernel_rfl)
                    clear hK K
                    (repeat (first | simp only [Act.put] | simp only [List.setIfInBounds_toArray] | simp only [List.set_cons_zero] | simp only [List.set_cons_succ]))
                    refine AnyL.one (i := 17) (by kernel_rfl) rfl (fun K hK => ?_)
                    go_simp
                    refine hK.out _ _ (fun h => nomatch (show true = false from h)) (fun _ => ?_)
                    clear hK K
                    (try dsimp only)
                    refine AnyL.one (i := 18) (by kernel_rfl) rfl (fun K hK => ?_)
                    go_simp
                    refine hK.out _ _ (fun h => nomatch (show true = false from h)) (fun _ => ?_)
                    clear hK K
                    (try dsimp only)
                    refine AnyL.done (by kernel_rfl) ?_
                    clear c0 c1 c2 c3 c4 c5 f0 f1 f2 f3 f4 f5
                    go_wp2_with fail
                    go_meet
                    case rel => exact ⟨gn, rfl, rfl, Lib.hid ⟨z0, z1, z2, z3, z4, z5, z6, z7, z8, z9, z10, z11, z12, z13, w6_at G8.out _ _ _ _ _ _, HBV8.out.keep fun p hp _ => World.cell?_of_block (w := w8) (w6_other hp _ _ _ _ _ _)⟩, Lib.hid (w6_below HB8.out HGN.out _ _ _ _ _ _)⟩
                  · skip
                    go_simp
                    refine nameG (w := W13.drew.alloc (.cells #[.slice none 0 0, .int .i64 0, .int .u64 0, .slice none 0 0, .slice none 0 0, .slice none 0 0] 32)) (p := fun W => K _ W) fun w7 hw7 => ?_
                    obtain ⟨gn, hgn⟩ : ∃ g, g = W13.heap.size := ⟨_, rfl⟩
                    have HGN : Hid (W13.heap.size ≤ gn) := Lib.hid (by rw [hgn]; exact Nat.le_refl _)
                    have g7 : w7.heap[gn]? = some (.cells #[.slice none 0 0, .int .i64 0, .int .u64 0, .slice none 0 0, .slice none 0 0, .slice none 0 0] 32 (0, 0)) := by rw [hw7.out, hgn]; exact heap_alloc_new _ _
                    have HB7 : Hid (Below W13.heap.size W13 w7) := Lib.hid (by rw [hw7.out]; exact HBa.out.alloc HBa.out.size _)
                    have HS7 : Hid (w7.heap.size = W13.heap.size + 1 ∧ gn = W13.heap.size) := Lib.hid ⟨by rw [hw7.out]; simp, hgn⟩
                    rw [← hgn]
                    have G7 := Lib.hid g7
                    clear hgn g7 hw7
                    refine hK.out _ _ (fun _ => HB7.out) (fun hHeld => ?_)
                    replace hHeld := hHeld (by kernel_rfl)
                    clear hK K
                    (repeat (first | simp only [Act.put] | simp only [List.setIfInBounds_toArray] | simp only [List.set_cons_zero] | simp only [List.set_cons_succ]))
                    refine AnyL.one (i := 12) (by kernel_rfl) rfl (fun K hK => ?_)
                    go_simp
                    go_at_call 15
                    refine ((D1.out _ HB7.out).out).mono ?_
                    rintro e w8 ⟨bv, rfl, hbv, hb8⟩
                    have HB8 := Lib.hid (HB7.out.trans (hb8.mono HB7.out.size))
                    have hs7 := HS7.out
                    have g8 := (hb8.block _ (lt_heap G7.out)).trans G7.out
                    have hbv := IsBea.mono (M' := fun q => q ≠ gn) hbv (fun q _ hq => by
                      show q ≠ gn
                      rcases hq with hq | hq <;> omega)
                    obtain ⟨z0, z1, z2, z3, z4, z5, z6, z7, z8, z9, z10, z11, z12, z13, rfl⟩ := hbv.shape
                    have HBV8 := Lib.hid hbv
                    have G8 := Lib.hid g8
                    clear hs7
                    obtain ⟨⟨c0, c1, c2, c3, c4, c5⟩, ⟨f0, f1, f2, f3, f4, f5⟩⟩ := blk6 g8
                    clear hbv hb8 g8 HB7 G7
                    refine hK.out _ _ (fun _ => HB8.out) (fun hHeld => ?_)
                    replace hHeld := hHeld (by kernel_rfl)
                    clear hK K
                    (repeat (first | simp only [Act.put] | simp only [List.setIfInBounds_toArray] | simp only [List.set_cons_zero] | simp only [List.set_cons_succ]))
                    refine AnyL.takeD (i := 13) (d := some 157) (v := ?_) rfl rfl (by kernel_rfl) (by kernel_rfl) (fun _ _ _ h => h) (by kernel_rfl) (by kernel_rfl) (by kernel_rfl) (Or.inl ⟨by rfl, ?_⟩) hHeld ?_
                    rotate_left 1
                    focus (intro w hSw; (try dsimp only at hSw); go_simp; (try with_reducible rfl))
                    (repeat (first | simp only [Act.put] | simp only [List.setIfInBounds_toArray] | simp only [List.set_cons_zero] | simp only [List.set_cons_succ]))
                    refine AnyL.takeD (i := 14) (d := some 171) (v := ?_) rfl rfl (by kernel_rfl) (by kernel_rfl) (fun _ _ _ h => h) (by kernel_rfl) (by kernel_rfl) (by kernel_rfl) (Or.inl ⟨by rfl, ?_⟩) hHeld ?_
                    rotate_left 1
                    focus (intro w hSw; (try dsimp only at hSw); go_simp; (try with_reducible rfl))
                    (repeat (first | simp only [Act.put] | simp only [List.setIfInBounds_toArray] | simp only [List.set_cons_zero] | simp only [List.set_cons_succ]))
                    refine AnyL.lateD (i := 15) (d := some 172) (v := ?_) rfl rfl (by kernel_rfl) (by kernel_rfl) (fun _ _ _ h => h) (by kernel_rfl) (by kernel_rfl) (Or.inl ⟨by rfl, ?_⟩) (fun _ => hHeld) ?_
                    rotate_left 1
                    focus (intro w hSw; (try dsimp only at hSw); go_simp; (try with_reducible rfl))
                    (repeat (first | simp only [Act.put] | simp only [List.setIfInBounds_toArray] | simp only [List.set_cons_zero] | simp only [List.set_cons_succ]))
                    refine AnyL.one (i := 17) (by kernel_rfl) rfl (fun K hK => ?_)
                    go_simp
                    refine hK.out _ _ (fun h => nomatch (show true = false from h)) (fun _ => ?_)
                    clear hK K
                    (try dsimp only)
                    refine AnyL.one (i := 18) (by kernel_rfl) rfl (fun K hK => ?_)
                    go_simp
                    refine hK.out _ _ (fun h => nomatch (show true = false from h)) (fun _ => ?_)
                    clear hK K
                    (try dsimp only)
                    refine AnyL.done (by kernel_rfl) ?_
                    clear c0 c1 c2 c3 c4 c5 f0 f1 f2 f3 f4 f5
                    go_wp2_with fail
                    go_meet
                    case rel => exact ⟨gn, rfl, rfl, Lib.hid ⟨z0, z1, z2, z3, z4, z5, z6, z7, z8, z9, z10, z11, z12, z13, w6_at G8.out _ _ _ _ _ _, HBV8.out.keep fun p hp _ => World.cell?_of_block (w := w8) (w6_other hp _ _ _ _ _ _)⟩, Lib.hid (w6_below HB8.out HGN.out _ _ _ _ _ _)⟩
                case rest =>
                  obtain ⟨gn, rfl, rfl, HBC, HBd⟩ := hcut
                  rw [HRZ.out.1]
                  have HSM3 := Lib.hid (HRZ.out.2.1.small HST.out HWW.out)
                  have HB14 := Lib.hid (HB13.out.trans (HBd.out.mono HB13.out.size))
                  have HBX14 := Lib.hid (BoxN.below HBX13.out HBd.out)
                  have HM14 := Lib.hid (HM13.out.below HBd.out HM13.out.lt)
                  clear D1 HC HB13 HBX13 HM13 HBd HBE2
                  obtain ⟨u0, u1, u2, u3, u4, u5, u6, u7, u8, u9, u10, u11, u12, u13, hk, hbe⟩ := HBC.out
                  obtain ⟨⟨c0, c1, c2, c3, c4, c5⟩, ⟨f0, f1, f2, f3, f4, f5⟩⟩ := blk6 hk
                  clear hk
                  go_wp2_with fail
                  refine (number2_any _ _ _ rz.1 hbe HSM3.out).mono ?_
                  rintro e W15 ⟨rfl, hb15⟩
                  rw [HRZ.out.2.2]
                  dsimp only
                  have HB15 := Lib.hid (HB14.out.trans (hb15.mono HB14.out.size))
                  have HBX15 := Lib.hid (BoxN.below HBX14.out hb15)
                  have HM15 := Lib.hid (HM14.out.below hb15 HM14.out.lt)
                  clear hb15 hbe c0 c1 c2 c3 c4 c5 f0 f1 f2 f3 f4 f5 HB14 HBX14 HM14
                  have tw : ((wa : Int) != (wa : Int)) = false := by simp
                  go_wp2_with fail
                  go_roundw
                  case rel => exact ⟨k + 1, by omega, by go_num, b2, HOI2, HBX15, Lib.hid ⟨q + 1, by omega, by rw [← HOC.out]; exact HM15.out⟩, HB15⟩
                  case measure => simp [intOf]; omega
        · obtain rfl : k = l := by omega
          have hk1 : ¬ (k : Int) < (k : Int) := by omega
          go_wp2_with fail
          go_ret
          exact ⟨rfl, HB.out⟩
end Go.Proofs.Ytgaanndidcdbpaa
