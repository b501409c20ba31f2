/- The law WalDamage. -/
import Derived.Test.YtocjhepiooljpaaZw
import Derived.Deep.CutBlock
namespace Go.Proofs.Ytocjhepiooljpaa
open Go.RowKit Go.Deep Go.Shelf

set_option maxRecDepth 20000 in
set_option maxHeartbeats 4000000 in
theorem law7 (w : World) (M : Nat → Prop) (rs : List (List UInt8)) (v : Value) (h : IsMat w M v rs) (hf : FitR rs) (z1 z2 : Int) (x : Nat) (hx : x < 256) : Calls Try.prog 7 #[v, .int .i64 z1, .int .i64 z2, .int .u8 (x : Int)] w fun e w' => e = .returned (.bool true) ∧ Below w.heap.size w w' := by
  obtain ⟨mA, mc, rfl, hmc1, hmc2, hmr⟩ := id h
  have HMR := Lib.hid (hmr.mono (M' := fun b => b < w.heap.size) fun b hb _ => hb)
  have HF := Lib.hid hf
  have hlen := hf.len
  have HLEN := Lib.hid hlen
  have HMC := Lib.hid (And.intro hmc1 hmc2)
  have HX := Lib.hid hx
  clear hmr hf h hmc1 hmc2 hlen hx
  have CN := Lib.hid fun W => new_any W (40 : Int)
  obtain ⟨D, hD⟩ : ∃ D, D = freshD 40 := ⟨_, rfl⟩
  rw [show newD (40 : Int) = (D, 0) from by rw [hD]; exact newD_yes (n := 40) (by omega) (by omega)] at CN
  have HD := Lib.hid hD
  have hwk : Wk D 40 0 := by rw [hD]; exact wk_fresh (by omega) (by omega)
  have HWK := Lib.hid hwk
  clear hD hwk
  obtain ⟨iu, hiu, hz0, hz1', hz2'⟩ := info_parts Try.info_int
  have HIU := Lib.hid (And.intro hiu (And.intro hz0 (And.intro hz1' hz2')))
  clear hiu hz0 hz1' hz2'
  go_enter Try.func7, Try.ntmps7
  go_wp2_with fail
  refine (sane_any w).mono ?_
  rintro e w2 ⟨rfl, hb⟩
  have HB := Lib.hid hb
  clear hb
  go_wp2_with fail
  refine (CN.out w2).mono ?_
  rintro e w3 ⟨v3, rfl, hd3, hb⟩
  obtain ⟨sA3, sc3, pA3, pc3, rfl, -⟩ := hd3.parts
  have HD3 := Lib.hid (hd3.mono (M' := fun b => b < w3.heap.size) fun b hb _ => hb)
  replace HB := Lib.hid (HB.out.trans (hb.mono HB.out.size))
  clear hd3 hb CN
  obtain ⟨x0, hx0⟩ : ∃ x, x = Value.slice sA3 D.sectors.length sc3 := ⟨_, rfl⟩
  obtain ⟨x1, hx1⟩ : ∃ x, x = Value.slice pA3 D.pending.length pc3 := ⟨_, rfl⟩
  go_upto_region 4 with fail
  refine nameC fun W4 hW => ?_
  have hb4 : Below w3.heap.size w3 W4 := by rw [hW.out]; exact (Below.refl _ _).alloc (Nat.le_refl _) _
  have hb9 : W4.heap[w3.heap.size]? = some (.cells #[.slice sA3 D.sectors.length sc3, .slice pA3 D.pending.length pc3, .int .i64 D.left, .bool D.stopped] 25 (0, 0)) := by rw [hW.out]; exact heap_alloc_new _ _
  have HB9 := Lib.hid hb9
  have HB4 := Lib.hid hb4
  have hd4 := HD3.out.below hb4
  have hm4 := HMR.out.keep fun p _ hp => (HB.out.trans (hb4.mono HB.out.size)).cell hp
  have CF := few_any W4 _ _ D _ hd4 rs _ HF.out.lens (by have := HLEN.out; omega) ⟨mA, mc, rfl, HMC.out.1, HMC.out.2, hm4⟩
  have HCF := Lib.hid CF
  have d0 := cell_of (j := 0) HB9.out rfl
  have d1 := cell_of (j := 1) HB9.out rfl
  have d2 := cell_of (j := 2) HB9.out rfl
  have d3 := cell_of (j := 3) HB9.out rfl
  clear hW hb4 hb9 hd4 hm4 CF hx0 hx1
  by_cases hr0 : rs.length = 0
  · have hr1 : ((rs.length : Int) == 0) = true := by simpa using hr0
    clear hr0
    go_wp2_with fail
    clear d0 d1 d2 d3
    refine HCF.out.mono ?_
    rintro e W5 ⟨z, rfl, -, hb⟩
    replace HB := Lib.hid (HB.out.trans ((HB4.out.trans (hb.mono HB4.out.size)).mono HB.out.size))
    cases z
    · go_wp2_with fail
      go_ret
      exact ⟨rfl, HB.out⟩
    · go_wp2_with fail
      go_ret
      exact ⟨rfl, HB.out⟩
  have hr1 : ((rs.length : Int) == 0) = false := by simpa using hr0
  have HR0 := Lib.hid hr0
  clear hr0
  by_cases hx0 : x = 0
  · have hx1 : ((x : Int) == 0) = true := by simpa using hx0
    clear hx0
    go_wp2_with fail
    clear d0 d1 d2 d3
    refine HCF.out.mono ?_
    rintro e W5 ⟨z, rfl, -, hb⟩
    replace HB := Lib.hid (HB.out.trans ((HB4.out.trans (hb.mono HB4.out.size)).mono HB.out.size))
    cases z
    · go_wp2_with fail
      go_ret
      exact ⟨rfl, HB.out⟩
    · go_wp2_with fail
      go_ret
      exact ⟨rfl, HB.out⟩
  have hx1 : ((x : Int) == 0) = false := by simpa using hx0
  have HX0 := Lib.hid hx0
  clear hx0
  go_wp2_with fail
  clear d0 d1 d2 d3
  refine HCF.out.mono ?_
  rintro e W5 ⟨z, rfl, -, hb⟩
  have HBA := Lib.hid (HB4.out.trans (hb.mono HB4.out.size))
  cases z
  · go_wp2_with fail
    go_ret
    exact ⟨rfl, HB.out.trans (HBA.out.mono HB.out.size)⟩
  replace HB9 := Lib.hid ((hb.block _ (lt_heap HB9.out)).trans HB9.out)
  have h5 := lt_heap HB9.out
  clear hb HB4 HCF
  have d0 := cell_of (j := 0) HB9.out rfl
  have d1 := cell_of (j := 1) HB9.out rfl
  have d2 := cell_of (j := 2) HB9.out rfl
  have d3 := cell_of (j := 3) HB9.out rfl
  go_wp2_with fail
  clear d0 d1 d2 d3 hr1 hx1
  have hop := HWK.out.open_
  have CO := open_any W5 _ D _ (HD3.out.below HBA.out)
  rw [hop] at CO
  have hrec : recs D.sectors = [] := by rw [HD.out]; exact rec_fresh 40
  have HREC := Lib.hid hrec
  refine CO.mono ?_
  rintro e W6 ⟨v6, rfl, hl, hb⟩
  obtain ⟨rA, rc, rfl, hl⟩ := hl.form (n := 0) (s := 0) (by rw [show (logOf D []).recs = recs D.sectors ++ [] from rfl, hrec]; rfl) (by rw [show (logOf D []).synced = ((recs D.sectors).length : Int) from rfl, hrec]; rfl)
  have HL6 := Lib.hid hl
  replace HB9 := Lib.hid ((hb.block _ (lt_heap HB9.out)).trans HB9.out)
  replace HBA := Lib.hid (HBA.out.trans (hb.mono HBA.out.size))
  clear hop CO hl hb hrec
  go_upto_region 9 with fail
  refine nameC fun W7 hW7 => ?_
  obtain ⟨n11, hn11⟩ : ∃ n11, n11 = W6.heap.size := ⟨_, rfl⟩
  have hb7 : Below W6.heap.size W6 W7 := by rw [hW7.out]; exact (Below.refl _ _).alloc (Nat.le_refl _) _
  have hS7 : DmS w3 n11 (.slice sA3 D.sectors.length sc3) (.slice pA3 D.pending.length pc3) (.int .i64 D.left) (.bool D.stopped) D [] rA 0 rc (.slice none 0 0) [] W7 := by
    have h9 := lt_heap HB9.out
    have hbl := hb7.mono (B' := w3.heap.size) (by omega)
    refine ⟨(hb7.block _ h9).trans HB9.out, ?_, HBA.out.trans hbl, ?_, own_nil _ _ _ _, by omega⟩
    · rw [hW7.out, hn11]
      refine (heap_alloc_new _ _).trans ?_
      rw [HREC.out]; rfl
    · have := (HL6.out.mono (M' := Mx w3.heap.size n11 (.slice none 0 0)) fun b hlt hM => ⟨by omega, by omega, by simp [Value.ownBlock]⟩).below hb7
      rw [HREC.out]
      exact this
  rw [← hn11]
  have HS7 := Lib.hid hS7
  clear hS7 hW7 hb7 hn11 HL6 HB9 HBA h5
  go_upto_block 0 with fail
  go_cut [13] (fun ev W => ∃ j : Nat, j ≤ rs.length ∧ Hid (used (rs.take j) ≤ 40) ∧ Hid (∃ A n c, DmS w3 n11 (.slice sA3 D.sectors.length sc3) (.slice pA3 D.pending.length pc3) (.int .i64 D.left) (.bool D.stopped) D (rs.take j) A n c ev (endsL rs j) W))
  case first =>
    go_wp2_with fail
    go_loopw [13, 62] (fun ev i wr => ∃ j : Nat, j ≤ rs.length ∧ i = .int .i64 (j : Int) ∧ Hid (used (rs.take j) ≤ 40) ∧ Hid (∃ A n c, DmS w3 n11 (.slice sA3 D.sectors.length sc3) (.slice pA3 D.pending.length pc3) (.int .i64 D.left) (.bool D.stopped) D (rs.take j) A n c ev (endsL rs j) wr)) (fun _ i _ => rs.length - (intOf i).toNat)
    case atStart => exact ⟨0, Nat.zero_le _, rfl, Lib.hid (by simp [used_nil]), Lib.hid ⟨_, _, _, HS7.out⟩⟩
    case round =>
      clear HS7
      obtain ⟨j, hj, rfl, HU, HE⟩ := hrel
      obtain ⟨A, n0, c0, hS⟩ := id HE.out
      have HS := Lib.hid hS
      clear hS HE
      obtain ⟨eA, ec, he⟩ := own_sl HS.out.own
      rw [endsL_length] at he
      subst he
      have l0 := cell_of (j := 0) HS.out.b11 rfl
      have l1 := cell_of (j := 1) HS.out.b11 rfl
      have l2 := cell_of (j := 2) HS.out.b11 rfl
      by_cases hlt2 : j < rs.length
      · have hbw := HB.out.trans (HS.out.below.mono HB.out.size)
        obtain ⟨q, off2, bA, bc, rfl, hbl2, hck, hb1, hb2, hb3⟩ := (HMR.out.keep fun p _ hp => hbw.cell hp).at_ (Below.refl wr.heap.size wr) hlt2
        have hap := append_logOf HWK.out.ok (acc := rs.take j) (by rw [HREC.out, List.nil_append, HWK.out.len]; exact HU.out) wr _ _ (.slice bA (rs[j]).length bc) rs[j] (HF.out.lens j hlt2) HS.out.log ⟨bA, bc, rfl, hb1, hb2, hb3.mono fun b hb _ => ⟨by have := HB.out.size; omega, by have := HB.out.size; have := HS.out.lt; omega, fun e => by have := own_base HS.out.own _ e; have := HB.out.size; have := HS.out.lt; omega⟩⟩
        have CA := Lib.hid hap
        have hsn : rs.take j ++ [rs[j]] = rs.take (j + 1) := by rw [List.take_add_one, List.getElem?_eq_getElem hlt2]; rfl
        have hus := used_take hlt2
        have hbl := HF.out.lens j hlt2
        obtain ⟨b1, hb⟩ : ∃ b, b = rs[j] := ⟨_, rfl⟩
        rw [← hb] at hck hb1 CA hsn hus hbl
        have hcu : used (recs D.sectors ++ rs.take j) = used (rs.take j) := by rw [HREC.out, List.nil_append]
        rw [hsn, hcu] at CA
        clear hcu
        obtain ⟨u, hu⟩ : ∃ u, u = used (rs.take j) := ⟨_, rfl⟩
        obtain ⟨s, hs⟩ : ∃ s, s = secs b1.length := ⟨_, rfl⟩
        rw [← hu, ← hs] at CA hus
        have hse : (((b1.length : Int) + 115) / 116 = (s : Int) ∧ 1 ≤ s) ∨ (b1.length = 0 ∧ s = 1) := by rw [hs]; unfold secs; omega
        have hj0 : (0 : Int) ≤ (j : Int) := by omega
        have hj1 : (j : Int) < (rs.length : Int) := by omega
        have hlen : (rs.length : Int) ≤ 140737488355328 := by have := HLEN.out; omega
        have HUS := Lib.hid hus
        have HUU := Lib.hid hu
        have HSS := Lib.hid hs
        clear hb3 hb hap hsn hus hs hu hbw
        have HSE := Lib.hid hse
        clear hse
        by_cases hb : u + s ≤ D.sectors.length
        · have hif : (if u + s ≤ D.sectors.length then (logOf D (rs.take (j + 1)), (0 : Int)) else (zeroL, 2)) = (logOf D (rs.take (j + 1)), 0) := if_pos hb
          rw [hif] at CA
          clear hif
          have HUB := Lib.hid (show u + s ≤ 40 by have := HWK.out.len; omega)
          clear hb
          go_upto_region 13 with fail
          clear hck
          go_wp2_with fail
          refine CA.out.mono ?_
          rintro e w5 ⟨v5, rfl, hl5, hb5⟩
          obtain ⟨A5, n5, c5, rfl, hl5⟩ := form_logOf hl5
          have HS5 := Lib.hid (HS.out.next hb5)
          have HL5 := Lib.hid (hl5.mono (M' := Mx w3.heap.size n11 (.slice eA j ec)) fun q _ hq => Mx.new HS.out hq)
          have hlt5 := lt_heap HS5.out.b11
          have hne5 : ¬ n11 = w5.heap.size := by omega
          have d0 := cell_of (j := 0) HS5.out.b11 rfl
          have d1 := cell_of (j := 1) HS5.out.b11 rfl
          have d2 := cell_of (j := 2) HS5.out.b11 rfl
          have y0 : w5.frozen? ⟨n11, 0, none⟩ = false := frz HS5.out.b11
          have y1 : w5.frozen? ⟨n11, 1, none⟩ = false := frz HS5.out.b11
          have y2 : w5.frozen? ⟨n11, 2, none⟩ = false := frz HS5.out.b11
          clear hl5 hb5 l0 l1 l2 CA
          go_upto_region 16 with fail
          clear d0 d1 d2 y0 y1 y2 hne5 hlt5
          refine nameC fun W8 hW8 => ?_
          have hS8 : DmS w3 n11 (.slice sA3 D.sectors.length sc3) (.slice pA3 D.pending.length pc3) (.int .i64 D.left) (.bool D.stopped) D (rs.take (j + 1)) A5 n5 c5 (.slice eA j ec) (endsL rs j) W8 := by
            rw [hW8.out]
            exact (HS5.out.append HL5.out).next ((Below.refl _ _).alloc (Nat.le_refl _) _)
          have HS8 := Lib.hid hS8
          clear hS8 hW8 HS5 HL5 HS
          have hbL : (b1.length : Int) ≤ 140737488355328 := by omega
          go_cut [18] (fun n W => n = .int .i64 (s : Int) ∧ W = W8)
          case first =>
            go_wp2_with fail
            all_goals go_meet
            all_goals
              case rel => exact ⟨by congr 1; have := HSE.out; omega, rfl⟩
          case rest =>
            obtain ⟨rfl, rfl⟩ := hcut
            go_upto_if 82 with fail
            go_cut [18] (fun n W => n = .int .i64 ((u + s : Nat) : Int) ∧ W = wc)
            case first =>
              by_cases hj00 : j = 0
              · have hj02 : (j : Int) ≤ 0 := by omega
                go_wp2_with fail
                go_meet
                case rel => exact ⟨by congr 1; have := HUU.out; rw [hj00, List.take_zero, used_nil] at this; omega, rfl⟩
              · obtain ⟨k, rfl⟩ : ∃ k, j = k + 1 := ⟨j - 1, by omega⟩
                obtain ⟨eb, eo, hea, heb, hec⟩ := (IsInts.ofOwn HS8.out.own).at_ (Below.refl _ _) (show k < (endsL rs (k + 1)).length by rw [endsL_length]; omega)
                rw [endsL_get (by omega), ← HUU.out] at hec
                subst hea
                have hus9 : (u : Int) ≤ 40 ∧ (s : Int) ≤ 40 := by have := HUB.out; omega
                obtain ⟨hu9, hs9⟩ := hus9
                go_wp2_with fail
                go_meet
                case rel => exact ⟨by congr 1; rw [Int.natCast_add]; omega, rfl⟩
            case rest =>
              obtain ⟨rfl, hwc⟩ := hcut
              subst hwc
              have HOW := Lib.hid (show wc.ownsRow (n11 + 1) 3 1 (.slice eA j ec) j ((endsL rs j).map i64v) from by have := HS8.out.own; rwa [endsL_length] at this)
              have hj47 : j ≤ 40 := by have := used_bound (rs.take j); rw [List.length_take] at this; have := HU.out; omega
              have h11 := lt_heap HS8.out.b11
              go_wp2_with (at_builtin; refine wpList_append_cells _ rfl _ _ 47 rfl (n11 + 1) 3 iu (.int .i64 0) 1 8 Try.underlying47 HIU.out.1 HIU.out.2.1 HIU.out.2.2.1 HIU.out.2.2.2 rfl (by decide) _ j _ rfl (HOW.out.alloc _) (some ⟨wc.heap.size, 0, none⟩) 1 1 [i64v ((u + s : Nat) : Int)] rfl rfl ?c1 ?c2 ?c3 ?c4 ?c5 ?_)
              case c1 => exact fun _ => ⟨_, rfl, cell_one_new _ _ _⟩
              case c2 => exact one_i64 _
              case c3 => unfold maxLen; omega
              case c4 => omega
              case c5 => simp; omega
              intro v9 w9 hown9 hgrow9 hv9
              have HS9 := Lib.hid ((HS8.out.next ((Below.refl _ _).alloc (Nat.le_refl _) _)).push (e := ((u + s : Nat) : Int)) (by rw [endsL_length]; exact hown9) hgrow9 (by rw [World.size_alloc]; exact hv9))
              clear hown9 hgrow9 hv9
              go_wp2_with fail
              go_roundw
              case rel => exact ⟨j + 1, by omega, rfl, Lib.hid (by rw [HUS.out]; exact HUB.out), Lib.hid ⟨_, _, _, by
                have := HS9.out
                rw [endsL_snoc, HUS.out]
                exact this⟩⟩
              case measure => simp [intOf]; omega
        · have hif : (if u + s ≤ D.sectors.length then (logOf D (rs.take (j + 1)), (0 : Int)) else (zeroL, 2)) = (zeroL, 2) := if_neg hb
          rw [hif] at CA
          clear hif
          clear hb
          go_wp2_with (go_at_call 15; refine CA.out.mono ?_; rintro e w5 ⟨v5, rfl, hl5, hb5⟩; obtain ⟨A5, c5, rfl, hl5⟩ := hl5.form (n := 0) (s := 0) rfl rfl; have HS5 := Lib.hid (HS.out.next hb5); clear hl5 hb5)
          go_meet
          case rel => exact ⟨j, hj, HU, Lib.hid ⟨_, _, _, HS5.out.next ((Below.refl _ _).alloc (Nat.le_refl _) _)⟩⟩
      · have hj1 : ¬ (j : Int) < (rs.length : Int) := by omega
        go_wp2_with fail
        go_meet
        case rel => exact ⟨j, hj, HU, Lib.hid ⟨_, _, _, HS.out⟩⟩
  case rest =>
    obtain ⟨j, hj, HU, HE⟩ := hcut
    obtain ⟨A, n0, c0, hS⟩ := id HE.out
    have HS := Lib.hid hS
    clear hS HE HS7
    obtain ⟨eA, ec, he⟩ := own_sl HS.out.own
    rw [endsL_length] at he
    subst he
    have l0 := cell_of (j := 0) HS.out.b11 rfl
    have l1 := cell_of (j := 1) HS.out.b11 rfl
    have l2 := cell_of (j := 2) HS.out.b11 rfl
    have d0 := cell_of (j := 0) HS.out.b9 rfl
    have d1 := cell_of (j := 1) HS.out.b9 rfl
    have d2 := cell_of (j := 2) HS.out.b9 rfl
    have d3 := cell_of (j := 3) HS.out.b9 rfl
    have hj40 : j ≤ 40 := by have := used_bound (rs.take j); rw [List.length_take] at this; have := HU.out; omega
    have HJ := Lib.hid (And.intro hj hj40)
    clear hj hj40
    obtain ⟨acc, hacc⟩ : ∃ acc, acc = rs.take j := ⟨_, rfl⟩
    rw [← hacc] at HS HU
    have HACC := Lib.hid hacc
    have hfu : used (recs D.sectors ++ acc) ≤ 40 := by rw [HREC.out, List.nil_append]; exact HU.out
    have hdisk := (HD3.out.below HS.out.below).mono (M' := Mx w3.heap.size n11 (.slice eA j ec)) fun b _ hb => ⟨by omega, by have := HS.out.lt; omega, fun e => by have := own_base HS.out.own _ e; have := HS.out.lt; omega⟩
    have CS := syncW_any wc _ (logOf D acc) _ HS.out.log (fit_of_used (by show used (recs D.sectors ++ acc) ≤ 4096; omega)) D _ hdisk
    have HCS := Lib.hid CS
    clear hacc hfu hdisk CS
    by_cases hj0 : j = 0
    · have hj1 : ((j : Int) == 0) = true := by simpa using hj0
      obtain ⟨E, s1, -⟩ := HWK.out.sync (new := acc) (by omega) (by rw [HREC.out, List.nil_append, HWK.out.len]; exact HU.out)
      rw [s1] at HCS
      clear s1 hj0
      go_wp2_with fail
      refine HCS.out.mono ?_
      rintro e W8 ⟨lv, dv, rfl, hl, hd, hb⟩
      obtain ⟨A8, n8, c8, rfl, -⟩ := form_logOf hl
      obtain ⟨sA8, sc8, pA8, pc8, rfl, -⟩ := hd.parts
      have HB8 := Lib.hid (HB.out.trans ((HS.out.below.trans (hb.mono HS.out.below.size)).mono HB.out.size))
      clear HCS hl hd hb l0 l1 l2 d0 d1 d2 d3
      go_wp2_with fail
      go_ret
      exact ⟨rfl, (HB8.out.alloc HB8.out.size _).alloc (by have := HB8.out.size; simp; omega) _⟩
    obtain ⟨k1, rfl⟩ : ∃ k1, j = k1 + 1 := ⟨j - 1, by omega⟩
    obtain ⟨U, hU⟩ : ∃ U, U = used acc := ⟨_, rfl⟩
    have hU1 : 1 ≤ U ∧ U ≤ 40 := by
      have h1 := used_bound acc
      have h2 := HU.out
      rw [HACC.out, List.length_take] at h1
      have := HJ.out.1
      rw [HACC.out] at h2
      rw [hU, HACC.out]
      omega
    obtain ⟨kN, hkN⟩ : ∃ kN : Nat, IntKind.u64.wrap z1 % (U : Int) = (kN : Int) ∧ kN < U := by
      refine ⟨(IntKind.u64.wrap z1 % (U : Int)).toNat, ?_, ?_⟩
      · have := Int.emod_nonneg (IntKind.u64.wrap z1) (show (U : Int) ≠ 0 by omega); omega
      · have := Int.emod_nonneg (IntKind.u64.wrap z1) (show (U : Int) ≠ 0 by omega); have := Int.emod_lt_of_pos (IntKind.u64.wrap z1) (show (0 : Int) < (U : Int) by omega); omega
    obtain ⟨iN, hiN⟩ : ∃ iN : Nat, IntKind.u64.wrap z2 % 128 = (iN : Int) ∧ iN < 128 := by
      refine ⟨(IntKind.u64.wrap z2 % 128).toNat, ?_, ?_⟩
      · have := Int.emod_nonneg (IntKind.u64.wrap z2) (show (128 : Int) ≠ 0 by omega); omega
      · have := Int.emod_nonneg (IntKind.u64.wrap z2) (show (128 : Int) ≠ 0 by omega); have := Int.emod_lt_of_pos (IntKind.u64.wrap z2) (show (0 : Int) < 128 by omega); omega
    obtain ⟨by_, hby⟩ : ∃ by_ : UInt8, (x : Int) = (by_.toNat : Int) ∧ by_ ≠ 0 := by
      refine ⟨UInt8.ofNat x, ?_, fun e => HX0.out ?_⟩
      · rw [UInt8.toNat_ofNat']; have := HX.out; omega
      · have h2 := congrArg UInt8.toNat e
        rw [UInt8.toNat_ofNat'] at h2
        have := HX.out
        have h3 : (0 : UInt8).toNat = 0 := rfl
        omega
    obtain ⟨E, hE⟩ := dam (new := acc) (k := kN) (i := iN) (by_ := by_) HU.out (by rw [← hU]; exact hkN.2) hiN.2 hby.2
    have HE := Lib.hid hE
    have hse := hE.sync
    rw [← HD.out] at hse
    rw [hse] at HCS
    have HUU := Lib.hid hU
    have HU1 := Lib.hid hU1
    have HKN := Lib.hid hkN
    have HIN := Lib.hid hiN
    have HBY := Lib.hid hby
    clear hE hse hU hU1 hkN hiN hby hj0
    go_wp2_with fail
    refine HCS.out.mono ?_
    rintro e W8 ⟨lv, dv, rfl, hl, hd, hb⟩
    obtain ⟨A8, n8, c8, rfl, -⟩ := form_logOf hl
    obtain ⟨sA8, sc8, pA8, pc8, rfl, -⟩ := hd.parts
    have HD8 := Lib.hid (hd.mono (M' := fun b => b < W8.heap.size) fun b hb _ => hb)
    have HS8 := Lib.hid (HS.out.next hb)
    clear HCS hl hd hb l0 l1 l2 d0 d1 d2 d3 HS
    go_upto_region 22 with fail
    refine nameC fun W9 hW9 => ?_
    have hb9 : Below W8.heap.size W8 W9 := by rw [hW9.out]; exact ((Below.refl _ _).alloc (Nat.le_refl _) _).alloc (by simp) _
    have hb20 : W9.heap[W8.heap.size + 1]? = some (.cells #[.slice sA8 E.sectors.length sc8, .slice pA8 E.pending.length pc8, .int .i64 E.left, .bool E.stopped] 25 (0, 0)) := by rw [hW9.out]; exact heap2_1 _ _ _
    obtain ⟨n20, hn20⟩ : ∃ n20, n20 = W8.heap.size + 1 := ⟨_, rfl⟩
    rw [← hn20] at hb20 ⊢
    have HN20 := Lib.hid hn20
    have HX20 := Lib.hid hb20
    have HBW := Lib.hid hb9
    clear hW9 hb9 hb20 hn20
    have hS9 := HS8.out.next HBW.out
    have l1 : W9.cell? ⟨n11, 1, none⟩ = some (.slice A n0 c0) := cell_of (j := 1) hS9.b11 rfl
    have q0 : W9.cell? ⟨n20, 0, none⟩ = some (.slice sA8 E.sectors.length sc8) := cell_of (j := 0) HX20.out rfl
    obtain ⟨eb, eo, hea, heb, hec⟩ := (IsInts.ofOwn hS9.own).at_ (Below.refl _ _) (show k1 < (endsL rs (k1 + 1)).length by rw [endsL_length]; omega)
    rw [endsL_get (by omega), ← HACC.out, ← HUU.out] at hec
    have hj1 : ((k1 : Int) + 1 == 0) = false := by rw [beq_eq_false_iff_ne]; omega
    subst hea
    obtain ⟨hu1, hu2⟩ : (1 : Int) ≤ (U : Int) ∧ (U : Int) ≤ 40 := by have := HU1.out; omega
    have huw : IntKind.u64.wrap (U : Int) = (U : Int) := by rw [IntKind.wrap_u64]; omega
    have hu0 : ¬ (U : Int) = 0 := by omega
    have hkw : wrap64 ((IntKind.u64.wrap z1).tmod (U : Int)) = (kN : Int) := by
      have h1 := HKN.out.1
      have h2 := HKN.out.2
      rw [Int.tmod_eq_emod_of_nonneg (by rw [IntKind.wrap_u64]; omega), h1, IntWalk.wrap64_in _ (by omega)]
    have hk40 : (kN : Int) < 40 := by have := HKN.out.2; omega
    have hk1 : (k1 : Int) ≤ 40 := by have := HJ.out.2; omega
    clear hS9
    have hkE := HE.out.hk
    have hkE1 : (kN : Int) < (E.sectors.length : Int) := by omega
    have hkE2 : ¬ (E.sectors.length : Int) ≤ (kN : Int) := by omega
    have hkE3 : decide (E.sectors.length ≤ kN) = false := by rw [decide_eq_false_iff_not]; omega
    obtain ⟨T, hT⟩ : ∃ T, T = E.sectors.getD kN [] := ⟨_, rfl⟩
    have hTg : E.sectors[kN] = T := by rw [hT, List.getD_eq_getElem?_getD, List.getElem?_eq_getElem hkE, Option.getD_some]
    have hT128 : T.length = 128 := by rw [hT]; exact HE.out.size
    have hHD8 := HD8.out
    obtain ⟨sv, pv, e8, hm8, -⟩ := id hHD8
    simp only [Value.agg.injEq, Array.mk.injEq, List.cons.injEq, and_true] at e8
    obtain ⟨e81, -⟩ := e8
    subst e81
    obtain ⟨A', c', e82, -, -, hm82⟩ := hm8
    obtain ⟨rfl, -, rfl⟩ : sA8 = A' ∧ _ ∧ sc8 = c' := by simpa only [Value.slice.injEq] using e82
    obtain ⟨tb, toff, bA, bc, rfl, htb, htc, hbc1, hbc2, hbT⟩ := hm82.at_ HBW.out hkE
    rw [hTg] at htc hbc1 hbT
    rw [hT128] at htc hbc1
    obtain ⟨n0', hn0⟩ : n0 = k1 + 1 ∧ True := by
      obtain ⟨rv, e, A', c', e2, -⟩ := id HS8.out.log
      subst e2
      simp only [Value.agg.injEq, Array.mk.injEq, List.cons.injEq, Value.slice.injEq, and_true] at e
      refine ⟨e.2.1.2.1.trans ?_, trivial⟩
      show (recs D.sectors ++ acc).length = _
      rw [HREC.out, List.nil_append, HACC.out, List.length_take]
      have := HJ.out.1
      omega
    subst n0'
    have HT := Lib.hid hT
    have HT128 := Lib.hid hT128
    have HBT := Lib.hid hbT
    have HHK := Lib.hid hkE
    clear hkE hT hTg hT128 hHD8 hm82 e82 hbT hn0
    go_upto_region 25 with fail
    rw [hkw]
    clear hkw
    go_upto_region 27 with fail
    clear hec hkE1 hkE2 hkE3 hu1 hu2 huw hu0 hj1
    have hq20 := lt_heap HX20.out
    have htb9 : tb < W9.heap.size := by have := HBW.out.size; omega
    have hkE1 : (kN : Int) < (E.sectors.length : Int) := by have := HHK.out; omega
    have hkE4 : (0 : Int) ≤ (kN : Int) := by omega
    have hbt9 := (HBT.out.keep fun p _ hp => HBW.out.cell hp).keep (w' := W9.alloc (.cells #[] 5)) fun p _ hp => ((Below.refl W9.heap.size W9).alloc (Nat.le_refl _) _).cell hp
    have HBT9 := Lib.hid hbt9
    clear hbt9
    have hiw : (IntKind.u64.wrap z2).tmod 128 = (iN : Int) := by
      have h1 := HIN.out.1
      rw [Int.tmod_eq_emod_of_nonneg (by rw [IntKind.wrap_u64]; omega), h1]
    have hi1 : (iN : Int) < 128 := by have := HIN.out.2; omega
    have hi2 : (0 : Int) ≤ (iN : Int) := by omega
    have hi3 : iN < T.length := by rw [HT128.out]; exact HIN.out.2
    obtain ⟨t0, ht0⟩ : ∃ t0, t0 = T[iN] := ⟨_, rfl⟩
    have hxo : bits .xor .u8 ((t0.toNat : Nat) : Int) (x : Int) = (((t0 ^^^ by_).toNat : Nat) : Int) := by
      rw [HBY.out.1, u8_xor_nat _ _ (UInt8.toNat_lt _) (UInt8.toNat_lt _), UInt8.toNat_xor]
    obtain ⟨cx, hcx⟩ : ∃ cx, cx = t0 ^^^ by_ := ⟨_, rfl⟩
    rw [← hcx] at hxo
    have HCX := Lib.hid (show cx = T.getD iN 0 ^^^ by_ by rw [hcx, ht0, List.getD_eq_getElem?_getD, List.getElem?_eq_getElem hi3, Option.getD_some])
    have HT0 := Lib.hid (show T.map byt = T.map byt ∧ (T.map byt)[iN]? = some (byt t0) from ⟨rfl, by rw [ht0, List.getElem?_map, List.getElem?_eq_getElem hi3]; rfl⟩)
    have HI3 := Lib.hid (show iN < 128 by have := HT128.out; omega)
    clear hcx ht0 hi3
    go_upto_region 29 with (at_builtin; refine wpList_appB rfl (.tmp 145) (.tmp 150) rfl W9.heap.size W9.heap.size (.slice (some ⟨W9.heap.size, 0, none⟩) 0 0) [] rfl (OwnB.empty (heap_alloc_new _ _) (Nat.le_refl _)) bA 128 bc T rfl HT128.out.symm HBT9.out (by rw [HT128.out]; decide) (by simp) (Nat.le_refl _) ((Below.refl W9.heap.size W9).alloc (Nat.le_refl _) _) ?_; intro v10 w10 HO10 HB10 hsz10; have hown := (show w10.ownsRow W9.heap.size 5 1 v10 128 (T.map byt) from (by have := HO10.out; unfold OwnB at this; rwa [List.nil_append, HT128.out] at this)); have HOW := Lib.hid hown; obtain ⟨g, gc, rfl, hg1, hg2, hg3, hg4⟩ := own_pos hown (by decide); have hcg : w10.cell? ⟨g, iN, none⟩ = some (.int .u8 ((t0.toNat : Nat) : Int)) := (by rw [hown.cellAt iN (by have := HI3.out; omega), HT0.out.2]; rfl); have hfg := hown.frozenAt iN; clear hown HO10)
    refine nameC fun W11 hW11 => ?_
    have hb11 : Below W9.heap.size W9 W11 := by
      rw [hW11.out]
      repeat (first | with_reducible exact HB10.out | with_reducible refine Below.drew ?_ | refine Below.setCell ?_ hg1 _)
    have ho11 : OwnB W11 W9.heap.size (.slice (some ⟨g, 0, none⟩) 128 gc) (T.set iN cx) := by
      have := (HOW.out.stored iN (byt cx)).1
      rw [hW11.out]
      unfold OwnB
      rw [List.map_set, List.length_set, HT128.out]
      exact this
    have hbs11 : BytesC W11 (NB [n20]) (some ⟨g, 0, none⟩) (T.set iN cx) := by
      obtain ⟨A', c', e, -, -, h3⟩ := ho11.bytes
      rw [List.length_set, HT128.out] at e
      simp only [Value.slice.injEq, true_and] at e
      rw [e.1]
      exact h3.mono fun b _ hb hm => by simp at hm; omega
    have HX11 := Lib.hid ((hb11.block _ hq20).trans HX20.out)
    have HBB := Lib.hid (HBW.out.trans (hb11.mono HBW.out.size))
    have HBS := Lib.hid hbs11
    have hd11 := (HD8.out.below HBB.out).mono (M' := NB [n20]) fun b _ hb hm => by simp at hm; have := HN20.out; omega
    obtain ⟨E1, E2, hw1, hw2, hw3, hw4⟩ := HE.out.rest (T.set iN cx) (by rw [HCX.out, ← HT.out])
    have CW := write_any W11 _ E _ hd11 (kN : Int) (T.set iN cx) (some ⟨g, 0, none⟩) gc HBS.out (by rw [List.length_set, HT128.out]; decide)
    rw [List.length_set, HT128.out, hw1] at CW
    have HCW := Lib.hid CW
    have HW2 := Lib.hid hw2
    have HW3 := Lib.hid hw3
    have HW4 := Lib.hid hw4
    clear CW hw1 hw2 hw3 hw4 hd11 hbs11 ho11 hb11 hW11 HOW hcg hfg hxo hiw hi1 hi2 hkE1 hkE4 HX20 HBW HB10 l1 q0 htc htb htb9
    have q0 := cell_of (j := 0) HX11.out rfl
    have q1 := cell_of (j := 1) HX11.out rfl
    have q2 := cell_of (j := 2) HX11.out rfl
    have q3 := cell_of (j := 3) HX11.out rfl
    go_wp2_with fail
    clear q0 q1 q2 q3
    refine HCW.out.mono ?_
    rintro e W12 ⟨v12, rfl, hd, hb⟩
    obtain ⟨sA9, sc9, pA9, pc9, rfl, -⟩ := hd.parts
    have HX12 := Lib.hid ((hb.block _ (lt_heap HX11.out)).trans HX11.out)
    have hin : InW [n20] W11 := (InW.nil _).cons (lt_heap HX11.out)
    have HD12 := Lib.hid (hd.ofNew hin)
    replace HBB := Lib.hid (HBB.out.trans (hb.mono HBB.out.size))
    clear HCW hd hb hin HX11 HBS
    have hlt5 := lt_heap HX12.out
    have q0 := cell_of (j := 0) HX12.out rfl
    have q1 := cell_of (j := 1) HX12.out rfl
    have q2 := cell_of (j := 2) HX12.out rfl
    have q3 := cell_of (j := 3) HX12.out rfl
    have f0 : W12.frozen? ⟨n20, 0, none⟩ = false := frz HX12.out
    have f1 : W12.frozen? ⟨n20, 1, none⟩ = false := frz HX12.out
    have f2 : W12.frozen? ⟨n20, 2, none⟩ = false := frz HX12.out
    have f3 : W12.frozen? ⟨n20, 3, none⟩ = false := frz HX12.out
    go_upto_region 30 with fail
    clear q0 q1 q2 q3 f0 f1 f2 f3 hlt5
    refine nameC fun W13 hW13 => ?_
    have hx9 : W13.heap[n20]? = some (.cells #[.slice sA9 E1.sectors.length sc9, .slice pA9 E1.pending.length pc9, .int .i64 E1.left, .bool E1.stopped] 25 (0, 0)) := by rw [hW13.out]; exact set4 HX12.out _ _ _ _
    have hk9 : Off n20 W12 W13 := by rw [hW13.out]; exact ((((Off.refl _ _).setCell 0 _).setCell 1 _).setCell 2 _).setCell 3 _
    have hb9 : Below W8.heap.size W8 W13 := by
      have hn : W8.heap.size ≤ n20 := by rw [HN20.out]; omega
      rw [hW13.out]; exact (((HBB.out.setCell hn _).setCell hn _).setCell hn _).setCell hn _
    have hd9 := HD12.out.keep fun p hp _ => hk9 p (fun e => hp (by rw [e]; simp))
    replace HBB := Lib.hid hb9
    have HX13 := Lib.hid hx9
    have CS := sync_any W13 _ E1 _ hd9
    rw [HW2.out] at CS
    have HCS := Lib.hid CS
    clear CS hx9 hk9 hb9 hd9 hW13 HX12 HD12
    have q0 := cell_of (j := 0) HX13.out rfl
    have q1 := cell_of (j := 1) HX13.out rfl
    have q2 := cell_of (j := 2) HX13.out rfl
    have q3 := cell_of (j := 3) HX13.out rfl
    go_wp2_with fail
    clear q0 q1 q2 q3
    refine HCS.out.mono ?_
    rintro e W14 ⟨v14, rfl, hd, hb⟩
    obtain ⟨sA7, sc7, pA7, pc7, rfl, -⟩ := hd.parts
    have HX14 := Lib.hid ((hb.block _ (lt_heap HX13.out)).trans HX13.out)
    have hin : InW [n20] W13 := (InW.nil _).cons (lt_heap HX13.out)
    have HD14 := Lib.hid (hd.ofNew hin)
    replace HBB := Lib.hid (HBB.out.trans (hb.mono HBB.out.size))
    clear HCS hd hb hin HX13
    have hlt5 := lt_heap HX14.out
    have q0 := cell_of (j := 0) HX14.out rfl
    have q1 := cell_of (j := 1) HX14.out rfl
    have q2 := cell_of (j := 2) HX14.out rfl
    have q3 := cell_of (j := 3) HX14.out rfl
    have f0 : W14.frozen? ⟨n20, 0, none⟩ = false := frz HX14.out
    have f1 : W14.frozen? ⟨n20, 1, none⟩ = false := frz HX14.out
    have f2 : W14.frozen? ⟨n20, 2, none⟩ = false := frz HX14.out
    have f3 : W14.frozen? ⟨n20, 3, none⟩ = false := frz HX14.out
    go_upto_region 31 with fail
    clear q0 q1 q2 q3 f0 f1 f2 f3 hlt5
    refine nameC fun W15 hW15 => ?_
    have hx7 : W15.heap[n20]? = some (.cells #[.slice sA7 E2.sectors.length sc7, .slice pA7 E2.pending.length pc7, .int .i64 E2.left, .bool E2.stopped] 25 (0, 0)) := by rw [hW15.out]; exact set4 HX14.out _ _ _ _
    have hk7 : Off n20 W14 W15 := by rw [hW15.out]; exact ((((Off.refl _ _).setCell 0 _).setCell 1 _).setCell 2 _).setCell 3 _
    have hb7 : Below W8.heap.size W8 W15 := by
      have hn : W8.heap.size ≤ n20 := by rw [HN20.out]; omega
      rw [hW15.out]; exact (((HBB.out.setCell hn _).setCell hn _).setCell hn _).setCell hn _
    have hd7 := HD14.out.keep fun p hp _ => hk7 p (fun e => hp (by rw [e]; simp))
    replace HBB := Lib.hid hb7
    have HX15 := Lib.hid hx7
    have CO := open_any W15 _ E2 _ hd7
    rw [HW3.out] at CO
    have HCO := Lib.hid CO
    clear CO hx7 hk7 hb7 hd7 hW15 HX14 HD14
    have q0 := cell_of (j := 0) HX15.out rfl
    have q1 := cell_of (j := 1) HX15.out rfl
    have q2 := cell_of (j := 2) HX15.out rfl
    have q3 := cell_of (j := 3) HX15.out rfl
    go_wp2_with fail
    clear q0 q1 q2 q3
    refine HCO.out.mono ?_
    rintro e W16 ⟨v16, rfl, hl, hb⟩
    obtain ⟨m, hm⟩ : ∃ m, m = cnt kN acc := ⟨_, rfl⟩
    have hacl : acc.length = k1 + 1 := by rw [HACC.out, List.length_take]; have := HJ.out.1; omega
    have hmle : m ≤ k1 + 1 := by rw [hm, ← hacl]; exact cnt_le _ _
    have hrl : (recs E2.sectors).length = m := by rw [HW4.out, List.length_take, ← hm]; omega
    obtain ⟨A16, c16, rfl, hl⟩ := hl.form (n := m) (s := (m : Int)) (by rw [← hrl]; simp [logOf]) (by rw [← hrl]; rfl)
    have HL16 := Lib.hid hl.matR
    replace HBB := Lib.hid (HBB.out.trans (hb.mono HBB.out.size))
    have HM := Lib.hid hm
    have HACL := Lib.hid hacl
    have HMLE := Lib.hid hmle
    clear HCO hl hb hm hacl hmle hrl HX15
    go_upto_region 32 with fail
    refine nameC fun W17 hW17 => ?_
    have hb17 : Below W16.heap.size W16 W17 := by rw [hW17.out]; exact (Below.refl _ _).alloc (Nat.le_refl _) _
    have hx25 : W17.heap[W16.heap.size]? = some (.cells #[.int .i64 (E2.sectors.length : Int), .slice A16 m c16, .int .i64 (m : Int)] 29 (0, 0)) := by rw [hW17.out]; exact heap_alloc_new _ _
    obtain ⟨n25, hn25⟩ : ∃ n25, n25 = W16.heap.size := ⟨_, rfl⟩
    rw [← hn25] at hx25 ⊢
    have HX25 := Lib.hid hx25
    replace HL16 := Lib.hid (HL16.out.below hb17)
    replace HBB := Lib.hid (HBB.out.trans (hb17.mono HBB.out.size))
    clear hW17 hb17 hx25 hn25
    have hk47 : (k1 : Int) ≤ 40 := by have := HJ.out.2; omega
    go_wp2_with fail
    go_loopw [27] (fun i wr => ∃ t : Nat, t ≤ m ∧ i = .int .i64 (t : Int) ∧ Hid (Below W17.heap.size W17 wr)) (fun i _ => m - (intOf i).toNat)
    case atStart => exact ⟨0, Nat.zero_le _, rfl, Lib.hid (Below.refl _ _)⟩
    case round =>
      obtain ⟨t, ht, rfl, HBL⟩ := hrel
      have HS17 := Lib.hid (HS8.out.next (HBB.out.trans (HBL.out.mono HBB.out.size)))
      have hmk : m ≤ k1 + 1 := HMLE.out
      have ht0 : (0 : Int) ≤ (t : Int) := by omega
      have ht4 : (t : Int) ≤ 41 := by omega
      by_cases htk : t < k1 + 1
      · have ht1 : (t : Int) < (k1 : Int) + 1 := by omega
        have ht2 : decide ((t : Int) < (k1 : Int) + 1) = true := decide_eq_true ht1
        obtain ⟨eb', eo', hea, heb', hec⟩ := (IsInts.ofOwn HS17.out.own).at_ (Below.refl _ _) (show t < (endsL rs (k1 + 1)).length by rw [endsL_length]; exact htk)
        rw [endsL_get htk] at hec
        simp only [Option.some.injEq, Addr.mk.injEq, and_true] at hea
        obtain ⟨rfl, rfl⟩ := hea
        have hsp := cnt_spec acc kN t (by rw [HACL.out]; exact htk)
        rw [HACC.out, List.take_take, Nat.min_eq_left (by omega), ← HACC.out, ← HM.out] at hsp
        obtain ⟨y, hy⟩ : ∃ y, y = used (rs.take (t + 1)) := ⟨_, rfl⟩
        rw [← hy] at hec hsp
        clear hy
        by_cases htm : t < m
        · have hyk : (y : Int) ≤ (kN : Int) := by have := hsp.2 htm; omega
          clear hsp
          go_wp2_with fail
          go_roundw
          case rel => exact ⟨t + 1, by omega, rfl, HBL⟩
          case measure => simp [intOf]; omega
        · have hyk : ¬ (y : Int) ≤ (kN : Int) := by intro h; exact htm (hsp.1 (by omega))
          clear hsp
          obtain rfl : t = m := by omega
          go_wp2_with fail
          clear hyk hec heb' htm
          have l1 : wr.cell? ⟨n11, 1, none⟩ = some (.slice A (k1 + 1) c0) := cell_of (j := 1) HS17.out.b11 rfl
          have hx25 := (HBL.out.block _ (lt_heap HX25.out)).trans HX25.out
          have z1 : wr.cell? ⟨n25, 1, none⟩ = some (.slice A16 t c16) := cell_of (j := 1) hx25 rfl
          have hmA : IsMat wr (Mx w3.heap.size n11 (.slice (some ⟨eb, eo, none⟩) (k1 + 1) ec)) (.slice A (k1 + 1) c0) acc := by
            have := HS17.out.log.matR
            rwa [show (logOf D acc).recs = acc by show recs D.sectors ++ acc = acc; rw [HREC.out, List.nil_append]] at this
          obtain ⟨A', c', e, q1, q2, q3⟩ := hmA
          simp only [Value.slice.injEq] at e
          obtain ⟨e1, e2, e3⟩ := e
          have hcap : k1 + 1 ≤ c0 ∧ c0 ≤ 9223372036854775807 := by rw [e3, e2]; exact ⟨q1, q2⟩
          have hlt : (acc.take t).length = t := by rw [List.length_take, HACL.out]; omega
          have hmt : IsMat wr (Mx w3.heap.size n11 (.slice (some ⟨eb, eo, none⟩) (k1 + 1) ec)) (.slice A t c0) (acc.take t) := ⟨A, c0, by rw [hlt], by rw [hlt]; omega, hcap.2, e1 ▸ q3.take t⟩
          have hr2 : (logOf E2 []).recs = acc.take t := by show recs E2.sectors ++ [] = _; rw [List.append_nil, HW4.out, ← HM.out]
          have hl16 := HL16.out.below HBL.out
          rw [hr2] at hl16
          have CA := fun j => Lib.hid ((sameRecs_any (wr.drewN j) _ _ (acc.take t) (acc.take t) (.slice A16 t c16) (.slice A t c0) (by rw [hlt]; omega) (by rw [hlt]; omega) (hl16.below (below_drewN (Below.refl wr.heap.size wr) j)) (hmt.below (below_drewN (Below.refl wr.heap.size wr) j))).mono (R' := fun e w' => e = Ending.returned (.bool true) ∧ ∃ n, w' = (wr.drewN j).drewN n) fun e w' ⟨he, hw⟩ => ⟨by rw [he, decide_eq_true rfl], hw⟩)
          have HBF := Lib.hid (HB.out.trans ((HS17.out.below).mono HB.out.size))
          have i3 : (0 : Int) ≤ (t : Int) := by omega
          have i4 : (t : Int) ≤ (c0 : Int) := by omega
          have i5 : t ≤ c0 := by omega
          clear hcap hlt hmt hr2 hl16 q1 q2 q3 e1 e2 e3 hx25 ht0 ht1 ht2 hmk
          go_quiet ((go_at_call 24; exact Calls.quiet_of (CA _).out))
          go_wp2_with fail
          go_ret
          exact ⟨rfl, below_drewN HBF.out _⟩
      · have ht1 : ¬ (t : Int) < (k1 : Int) + 1 := by omega
        have ht2 : decide ((t : Int) < (k1 : Int) + 1) = false := decide_eq_false ht1
        obtain rfl : t = m := by omega
        go_wp2_with fail
        have l1 : wr.cell? ⟨n11, 1, none⟩ = some (.slice A (k1 + 1) c0) := cell_of (j := 1) HS17.out.b11 rfl
        have hx25 := (HBL.out.block _ (lt_heap HX25.out)).trans HX25.out
        have z1 : wr.cell? ⟨n25, 1, none⟩ = some (.slice A16 t c16) := cell_of (j := 1) hx25 rfl
        have hmA : IsMat wr (Mx w3.heap.size n11 (.slice (some ⟨eb, eo, none⟩) (k1 + 1) ec)) (.slice A (k1 + 1) c0) acc := by
          have := HS17.out.log.matR
          rwa [show (logOf D acc).recs = acc by show recs D.sectors ++ acc = acc; rw [HREC.out, List.nil_append]] at this
        obtain ⟨A', c', e, q1, q2, q3⟩ := hmA
        simp only [Value.slice.injEq] at e
        obtain ⟨e1, e2, e3⟩ := e
        have hcap : k1 + 1 ≤ c0 ∧ c0 ≤ 9223372036854775807 := by rw [e3, e2]; exact ⟨q1, q2⟩
        have hlt : (acc.take t).length = t := by rw [List.length_take, HACL.out]; omega
        have hmt : IsMat wr (Mx w3.heap.size n11 (.slice (some ⟨eb, eo, none⟩) (k1 + 1) ec)) (.slice A t c0) (acc.take t) := ⟨A, c0, by rw [hlt], by rw [hlt]; omega, hcap.2, e1 ▸ q3.take t⟩
        have hr2 : (logOf E2 []).recs = acc.take t := by show recs E2.sectors ++ [] = _; rw [List.append_nil, HW4.out, ← HM.out]
        have hl16 := HL16.out.below HBL.out
        rw [hr2] at hl16
        have CA := fun j => Lib.hid ((sameRecs_any (wr.drewN j) _ _ (acc.take t) (acc.take t) (.slice A16 t c16) (.slice A t c0) (by rw [hlt]; omega) (by rw [hlt]; omega) (hl16.below (below_drewN (Below.refl wr.heap.size wr) j)) (hmt.below (below_drewN (Below.refl wr.heap.size wr) j))).mono (R' := fun e w' => e = Ending.returned (.bool true) ∧ ∃ n, w' = (wr.drewN j).drewN n) fun e w' ⟨he, hw⟩ => ⟨by rw [he, decide_eq_true rfl], hw⟩)
        have HBF := Lib.hid (HB.out.trans ((HS17.out.below).mono HB.out.size))
        have i3 : (0 : Int) ≤ (t : Int) := by omega
        have i4 : (t : Int) ≤ (c0 : Int) := by omega
        have i5 : t ≤ c0 := by omega
        clear hcap hlt hmt hr2 hl16 q1 q2 q3 e1 e2 e3 hx25 ht0 ht1 ht2 hmk
        go_quiet ((go_at_call 24; exact Calls.quiet_of (CA _).out))
        go_wp2_with fail
        go_ret
        exact ⟨rfl, below_drewN HBF.out _⟩
end Go.Proofs.Ytocjhepiooljpaa
