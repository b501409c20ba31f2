/- The law WalSurvives. -/
import Derived.Test.YtocjhepiooljpaaY3
namespace Go.Proofs.Ytocjhepiooljpaa
open Go.RowKit Go.Deep Go.Shelf

set_option maxRecDepth 20000 in
set_option maxHeartbeats 4000000 in
theorem law9 (w : World) (M : Nat → Prop) (x : Nat) (hx : x < 256) (cs : List CrD) (v : Value) (h : IsCrs w M v cs) (hf : ∀ (i : Nat) (hi : i < cs.length), FitR (cs[i]).recs) : Calls Try.prog 9 #[.int .u8 (x : Int), v] w fun e w' => e = .returned (.bool true) ∧ Below w.heap.size w w' := by
  obtain ⟨A, c, rfl, hc1, hc2, hm⟩ := h
  have HM := Lib.hid hm
  have HF := Lib.hid hf
  clear hm hf
  obtain ⟨n, hn⟩ : ∃ n, n = x % 30 + 1 := ⟨_, rfl⟩
  have hn1 : 1 ≤ n ∧ n ≤ 30 := by omega
  have hxn : (x : Int) % 30 + 1 = (n : Int) := by omega
  have CN := Lib.hid fun W => new_any W (n : Int)
  obtain ⟨D, hD⟩ : ∃ D, D = freshD n := ⟨_, rfl⟩
  rw [newD_yes hn1.1 (by omega), ← hxn, show (⟨List.replicate n zs128, [], -1, false⟩ : DiskD) = D from hD.symm] at CN
  have hwk : Wk D n 0 := by rw [hD]; exact wk_fresh hn1.1 (by omega)
  have hrec : recs D.sectors = [] := by rw [hD]; exact rec_fresh n
  have HWK := Lib.hid hwk
  have HREC := Lib.hid hrec
  have HN := Lib.hid hn1
  clear hxn hwk hrec hn1 hn hD
  go_enter Try.func9, Try.ntmps9
  go_wp2_with fail
  refine (sane_any w).mono ?_
  rintro e w2 ⟨rfl, hb⟩
  have HB := Lib.hid hb
  clear hb
  by_cases h8 : 8 < cs.length
  · have h8i : (8 : Int) < (cs.length : Int) := by omega
    go_wp2_with fail
    go_ret
    exact ⟨rfl, HB.out⟩
  have h8i : ¬ (8 : Int) < (cs.length : Int) := by omega
  clear h8i
  go_wp2_with fail
  refine (CN.out w2).mono ?_
  rintro e w3 ⟨v3, rfl, (hd3 : IsDisk w3 (fun b => w2.heap.size ≤ b) v3 D), hb⟩
  obtain ⟨sA3, sc3, pA3, pc3, rfl, -⟩ := hd3.parts
  have HD3 := Lib.hid hd3
  replace HB := Lib.hid (HB.out.trans (hb.mono HB.out.size))
  clear hd3 hb CN
  go_wp2_with fail
  refine nameG fun W4 hW => ?_
  have hb4 : Below w3.heap.size w3 W4 := by rw [hW.out]; exact (Below.refl _ _).alloc (Nat.le_refl _) _
  have HS4 := Lib.hid (show SvS w w3.heap.size [w3.heap.size] (.slice sA3 D.sectors.length sc3) (.slice pA3 D.pending.length pc3) (.int .i64 D.left) (.bool D.stopped) D (.slice none 0 0) (recs D.sectors) W4 from
    ⟨by rw [hW.out]; exact heap_alloc_new _ _, (HD3.out.mono fun b hlt _ => NB.cons hlt (nb0 b)).below hb4, by rw [HREC.out]; exact IsMat.nil, HB.out.trans (hb4.mono HB.out.size), HB.out.size, by simp, (InW.nil _).cons (by rw [hW.out]; simp), by simp; exact HB.out.size⟩)
  clear hW hb4 HD3
  go_loopw [6, 7, 40] (fun e kv i wr => ∃ k : Nat, k ≤ cs.length ∧ e = .int .i64 0 ∧ i = .int .i64 (k : Int) ∧ Hid (∃ x0 x1 x2 x3 D, SvS w w3.heap.size [w3.heap.size] x0 x1 x2 x3 D kv (recs D.sectors) wr ∧ Wk D n k)) (fun _ _ i _ => cs.length - (intOf i).toNat)
  case atStart => exact ⟨0, Nat.zero_le _, rfl, rfl, Lib.hid ⟨_, _, _, _, D, HS4.out, HWK.out⟩⟩
  case round =>
    clear HS4 HREC HWK
    obtain ⟨k, hk, rfl, rfl, HE⟩ := hrel
    obtain ⟨x0, x1, x2, x3, D, hS, hW⟩ := id HE.out
    have HS := Lib.hid hS
    have HW := Lib.hid hW
    clear hS hW HE
    have hq5 := lt_heap HS.out.b5
    have d0 := cell_of (j := 0) HS.out.b5 rfl
    have d1 := cell_of (j := 1) HS.out.b5 rfl
    have d2 := cell_of (j := 2) HS.out.b5 rfl
    have d3 := cell_of (j := 3) HS.out.b5 rfl
    obtain ⟨r, hr⟩ : ∃ r, r = (recs D.sectors).length := ⟨_, rfl⟩
    obtain ⟨kA, kc, hkv, -⟩ := id HS.out.kept
    rw [← hr] at hkv
    subst hkv
    by_cases hlt : k < cs.length
    · obtain ⟨b, off, mv, rfl, hbl, e0, e1, e2, hmv⟩ := HM.out.at_ HS.out.below hlt
      have hfc := HF.out k hlt
      obtain ⟨c, hc⟩ : ∃ c, c = cs[k] := ⟨_, rfl⟩
      rw [← hc] at e1 e2 hmv hfc
      clear hc
      obtain ⟨rs, st, lf⟩ := c
      replace e1 : wr.cell? ⟨b, off + k * 3 + 1, none⟩ = some (.bool st) := e1
      replace e2 : wr.cell? ⟨b, off + k * 3 + 2, none⟩ = some (.int .u8 (lf.toNat : Int)) := e2
      obtain ⟨mA, mc, rfl, hmc1, hmc2, hmr⟩ := id hmv
      have HMR := Lib.hid (hmr.mono (M' := fun b => b < w.heap.size) fun b hb _ => hb)
      have HMV := Lib.hid hmv
      have hlen := hfc.len
      clear hmr
      have HFC := Lib.hid hfc
      have HR := Lib.hid hr
      have hk0 : (0 : Int) ≤ (k : Int) := by omega
      have hk1 : (k : Int) < (cs.length : Int) := by omega
      clear hmv hfc hr
      go_wp2_with fail
      refine nameW fun W1 hW1 => ?_
      obtain ⟨n9, hn9⟩ : ∃ n9, n9 = wr.heap.size := ⟨_, rfl⟩
      have h9lt : w3.heap.size < n9 := by rw [hn9]; exact hq5
      have hS1 : SvS w w3.heap.size [n9, w3.heap.size] x0 x1 x2 x3 D (.slice kA r kc) (recs D.sectors) W1 := by
        rw [hW1.out, hn9]; exact HS.out.box _
      have hb9 : W1.heap[n9]? = some (.cells #[.slice mA rs.length mc, .bool st, .int .u8 (lf.toNat : Int)] 55 (0, 0)) := by rw [hW1.out, hn9]; exact heap_alloc_new _ _
      rw [← hn9]
      have HS1 := Lib.hid hS1
      have HB9 := Lib.hid hb9
      have hM1 := HMR.out.keep fun p _ hp => HS1.out.below.cell hp
      have CF := few_any W1 _ _ D _ HS1.out.disk rs _ HFC.out.lens (by omega) ⟨mA, mc, rfl, hmc1, hmc2, hM1⟩
      clear hS1 hb9 hM1 hW1 HS d0 d1 d2 d3 hq5 hn9 hlen
      refine CF.mono ?_
      rintro e W2 ⟨z, rfl, -, hb⟩
      have HS2 := Lib.hid (HS1.out.next hb)
      replace HB9 := Lib.hid ((hb.block _ (lt_heap HB9.out)).trans HB9.out)
      clear CF hb HS1
      have d0 := cell_of (j := 0) HS2.out.b5 rfl
      have d1 := cell_of (j := 1) HS2.out.b5 rfl
      have d2 := cell_of (j := 2) HS2.out.b5 rfl
      have d3 := cell_of (j := 3) HS2.out.b5 rfl
      cases z
      · go_wp2_with fail
        go_ret
        exact ⟨rfl, HS2.out.below⟩
      go_wp2_with fail
      clear d0 d1 d2 d3
      have hop := HW.out.open_
      have CO := open_any W2 _ D _ HS2.out.disk
      rw [hop] at CO
      refine CO.mono ?_
      rintro e W4 ⟨v4, rfl, hl, hb⟩
      obtain ⟨rA, rc, rfl, hl⟩ := hl.form (n := r) (s := (r : Int)) (by rw [HR.out]; simp [logOf]) (by rw [HR.out]; rfl)
      have hl := hl.mono (M' := NB [n9, w3.heap.size]) fun _ _ hM => NB.ge HS2.out.inw hM
      have HS4 := Lib.hid (HS2.out.next hb)
      replace HB9 := Lib.hid ((hb.block _ (lt_heap HB9.out)).trans HB9.out)
      have HL4 := Lib.hid hl
      clear hop CO hl hb HS2
      go_upto_region 15 with fail
      refine nameC fun W5 hW5 => ?_
      obtain ⟨n10, hn10⟩ : ∃ n10, n10 = W4.heap.size := ⟨_, rfl⟩
      have hR5 : RvS w w3.heap.size n9 n10 x0 x1 x2 x3 D (.slice kA r kc) (recs D.sectors) (.slice mA rs.length mc) ⟨rs, st, lf⟩ D [] rA r rc W5 := by
        have hb5 : Below W4.heap.size W4 W5 := by rw [hW5.out]; exact (Below.refl _ _).alloc (Nat.le_refl _) _
        have h9 := lt_heap HB9.out
        have h5 := lt_heap HS4.out.b5
        refine ⟨by rw [hW5.out, hn10]; exact HS4.out.box _, (hb5.block _ h9).trans HB9.out, ?_, ?_, by omega, by omega, by omega⟩
        · rw [hW5.out, hn10, ← HR.out]; exact heap_alloc_new _ _
        · rw [hn10, ← HR.out]; exact (HL4.out.mono fun b hlt hM => NB.cons hlt hM).below hb5
      rw [← hn10]
      have HV := Lib.hid hR5
      clear hR5 hW5 HL4 HB9 HS4 hn10 h9lt
      have hm5 : IsMat W5 (NB [n10, n9, w3.heap.size]) (.slice rA r rc) (recs D.sectors ++ []) := by
        obtain ⟨rv, e, h3⟩ := id HV.out.log
        simp only [Value.agg.injEq, Array.mk.injEq, List.cons.injEq, and_true] at e
        rw [e.2.1]; exact h3
      have HM5 := Lib.hid hm5
      clear hm5
      have l0 := cell_of (j := 0) HV.out.b10 rfl
      have l1 := cell_of (j := 1) HV.out.b10 rfl
      have l2 := cell_of (j := 2) HV.out.b10 rfl
      rw [← HR.out] at l2
      have hrr : ((r : Int) != (r : Int)) = false := by simp
      have hrL : r ≤ 140737488355328 := by
        rw [HR.out]
        have := recs_len (okB_sized HW.out.ok).2
        have := okB_sized HW.out.ok
        omega
      have HRL := Lib.hid hrL
      clear hrL
      go_wp2_with fail
      refine ((sameRecs_any W5 _ _ (recs D.sectors ++ []) (recs D.sectors) _ _ (by rw [List.append_nil, ← HR.out]; exact HRL.out) (by rw [← HR.out]; exact HRL.out) HM5.out HV.out.sv.kept).mono (R' := fun e w' => e = Ending.returned (.bool true) ∧ Below W5.heap.size W5 w') fun e w' ⟨he, m, hw⟩ => ⟨by rw [he, List.append_nil, decide_eq_true rfl], by rw [hw]; exact belowN (Below.refl _ _) _⟩).mono ?_
      rintro e W6 ⟨rfl, hb⟩
      have HV6 := Lib.hid (HV.out.next hb)
      clear HV HM5 hb l0 l1 l2 hrr
      have e90 := cell_of (j := 0) HV6.out.b9 rfl
      go_wp2_with fail
      clear e90
      go_loopw [74] (fun i wr => ∃ j : Nat, j ≤ rs.length ∧ i = .int .i64 (j : Int) ∧ Hid (∃ A n c, RvS w w3.heap.size n9 n10 x0 x1 x2 x3 D (.slice kA r kc) (recs D.sectors) (.slice mA rs.length mc) ⟨rs, st, lf⟩ D (addAll D [] (rs.take j)) A n c wr)) (fun i _ => rs.length - (intOf i).toNat)
      case atStart => exact ⟨0, Nat.zero_le _, rfl, Lib.hid ⟨_, _, _, HV6.out⟩⟩
      case round =>
        clear HV6
        obtain ⟨j, hj, rfl, HE⟩ := hrel
        obtain ⟨A, n0, c0, hS⟩ := id HE.out
        have HS := Lib.hid hS
        clear hS HE
        have l0 := cell_of (j := 0) HS.out.b10 rfl
        have l1 := cell_of (j := 1) HS.out.b10 rfl
        have l2 := cell_of (j := 2) HS.out.b10 rfl
        by_cases hlt2 : j < rs.length
        · obtain ⟨q, off2, bA, bc, rfl, hbl2, hck, hb1, hb2, hb3⟩ := (HMR.out.keep fun p _ hp => HS.out.sv.below.cell hp).at_ (Below.refl wr.heap.size wr) hlt2
          obtain ⟨acc, hacc⟩ : ∃ acc, acc = addAll D [] (rs.take j) := ⟨_, rfl⟩
          rw [← hacc] at HS
          have hsn := addAll_snoc D [] rs j hlt2
          rw [← hacc] at hsn
          have hfit : used (recs D.sectors ++ acc) ≤ D.sectors.length := by rw [hacc]; exact addAll_fit (fit_logOf HW.out) _
          have CA := Lib.hid (append_logOf HW.out.ok hfit wr _ _ (.slice bA (rs[j]).length bc) rs[j] (HFC.out.lens j hlt2) HS.out.log ⟨bA, bc, rfl, hb1, hb2, hb3.mono fun b _ hb e => absurd (HS.out.sv.all b e) (Nat.not_le_of_lt hb)⟩)
          obtain ⟨b1, hb⟩ : ∃ b, b = rs[j] := ⟨_, rfl⟩
          rw [← hb] at hck hb1 CA hsn
          have HB := Lib.hid hb
          have hj0 : (0 : Int) ≤ (j : Int) := by omega
          have hj1 : (j : Int) < (rs.length : Int) := by omega
          have hlen : (rs.length : Int) ≤ 140737488355328 := by have := HFC.out.len; omega
          clear hb3 hb hacc hfit
          by_cases hb : used (recs D.sectors ++ acc) + secs b1.length ≤ D.sectors.length
          · rw [if_pos hb] at CA hsn
            have HSN := Lib.hid hsn
            clear hb hsn
            go_wp2_with (go_at_call 15; refine CA.out.mono ?_; rintro e w5 ⟨v5, rfl, hl5, hb5⟩; obtain ⟨A5, n5, c5, rfl, hl5⟩ := form_logOf hl5; have HS5 := Lib.hid (HS.out.next hb5); have HL5 := Lib.hid (hl5.mono (M' := NB [n10, n9, w3.heap.size]) fun q _ hq => NB.new HS.out.sv.inw hq); have hlt5 := lt_heap HS5.out.b10; have hne5 : ¬ n10 = w5.heap.size := (by omega); have d0 := cell_of (j := 0) HS5.out.b10 rfl; have d1 := cell_of (j := 1) HS5.out.b10 rfl; have d2 := cell_of (j := 2) HS5.out.b10 rfl; have y0 : w5.frozen? ⟨n10, 0, none⟩ = false := (by simp [World.frozen?, HS5.out.b10]); have y1 : w5.frozen? ⟨n10, 1, none⟩ = false := (by simp [World.frozen?, HS5.out.b10]); have y2 : w5.frozen? ⟨n10, 2, none⟩ = false := (by simp [World.frozen?, HS5.out.b10]); clear hl5 hb5)
            go_roundw
            case rel => exact ⟨j + 1, by omega, rfl, Lib.hid ⟨_, _, _, by
              rw [HSN.out, HB.out]
              exact (HS5.out.append (HB.out ▸ HL5.out)).next ((Below.refl _ _).alloc (Nat.le_refl _) _)⟩⟩
            case measure => simp [intOf]; omega
          · rw [if_neg hb] at CA hsn
            have HSN := Lib.hid hsn
            clear hb hsn
            go_wp2_with (go_at_call 15; refine CA.out.mono ?_; rintro e w5 ⟨v5, rfl, hl5, hb5⟩; obtain ⟨A5, c5, rfl, hl5⟩ := hl5.form (n := 0) (s := 0) rfl rfl; have HS5 := Lib.hid (HS.out.next hb5); clear hl5 hb5)
            go_roundw
            case rel => exact ⟨j + 1, by omega, rfl, Lib.hid ⟨_, _, _, by
              rw [HSN.out]
              exact HS5.out.next ((Below.refl _ _).alloc (Nat.le_refl _) _)⟩⟩
            case measure => simp [intOf]; omega
        · have hj1 : ¬ (j : Int) < (rs.length : Int) := by omega
          obtain rfl : j = rs.length := by omega
          rw [List.take_length] at HS
          obtain ⟨acc, hacc⟩ : ∃ acc, acc = addAll D [] rs := ⟨_, rfl⟩
          rw [← hacc] at HS
          have hfit : used (recs D.sectors ++ acc) ≤ D.sectors.length := by rw [hacc]; exact addAll_fit (fit_logOf HW.out) _
          have HFIT := Lib.hid hfit
          clear hacc hfit l0 l1 l2
          obtain ⟨n1, hn1⟩ : ∃ n1, n1 = (recs D.sectors ++ acc).length := ⟨_, rfl⟩
          obtain rfl : n0 = n1 := by
            obtain ⟨rv, e, A', c', e2, -⟩ := id HS.out.log
            subst e2
            simp only [Value.agg.injEq, Array.mk.injEq, List.cons.injEq, Value.slice.injEq, and_true] at e
            rw [hn1]
            exact e.2.1.2.1
          have hn0 : r ≤ n0 := by rw [hn1, HR.out, List.length_append]; omega
          have HN0 := Lib.hid hn1
          have hlt0 : ¬ (n0 : Int) < (r : Int) := by omega
          have hn0b : n0 ≤ 4096 := by
            have := used_bound (recs D.sectors ++ acc)
            have := HFIT.out
            have := okB_sized HW.out.ok
            omega
          have HN0B := Lib.hid hn0b
          clear hn1 hn0 hn0b
          have l0 := cell_of (j := 0) HS.out.b10 rfl
          have l1 := cell_of (j := 1) HS.out.b10 rfl
          have l2 := cell_of (j := 2) HS.out.b10 rfl
          have e90 := cell_of (j := 0) HS.out.b9 rfl
          have e91 : wr.cell? ⟨n9, 1, none⟩ = some (.bool st) := cell_of (j := 1) HS.out.b9 rfl
          have e92 : wr.cell? ⟨n9, 2, none⟩ = some (.int .u8 (lf.toNat : Int)) := cell_of (j := 2) HS.out.b9 rfl
          go_upto_if 95 with fail
          clear l0 l1 l2 e90 e91 hlt0
          go_cut [6] (fun e W => e = .int .i64 0 ∧ Hid (∃ y0 y1 y2 y3 z, -1 ≤ z ∧ z ≤ 65536 ∧ (0 ≤ z → st = true) ∧ RvS w w3.heap.size n9 n10 y0 y1 y2 y3 (setLeft D z) (.slice kA r kc) (recs D.sectors) (.slice mA rs.length mc) ⟨rs, st, lf⟩ D acc A n0 c0 W))
          case first =>
            have d0 := cell_of (j := 0) HS.out.sv.b5 rfl
            have d1 := cell_of (j := 1) HS.out.sv.b5 rfl
            have d2 := cell_of (j := 2) HS.out.sv.b5 rfl
            have d3 := cell_of (j := 3) HS.out.sv.b5 rfl
            cases st
            · go_wp2_with fail
              go_meet
              case rel => exact ⟨rfl, Lib.hid ⟨x0, x1, x2, x3, -1, by decide, by decide, by decide, by rw [setLeft_self HW.out]; exact HS.out⟩⟩
            · obtain ⟨z, hz⟩ : ∃ z : Int, z = (lf.toNat : Int) % 40 := ⟨_, rfl⟩
              have hz0 : 0 ≤ z ∧ z < 40 := by omega
              have CS := stop_any wr _ D _ HS.out.sv.disk z
              rw [wk_stop HW.out hz0.1 (by omega)] at CS
              have HCS := Lib.hid CS
              rw [hz] at HCS
              have HZ := Lib.hid hz
              have HZ0 := Lib.hid hz0
              clear CS hz hz0
              go_wp2_with (go_at_call 29; refine HCS.out.mono ?_; rintro e W5 ⟨v5, rfl, hd, hb5⟩; obtain ⟨sA5, sc5, pA5, pc5, rfl, -⟩ := hd.parts; have HS5 := Lib.hid (HS.out.next hb5); have HD5 := Lib.hid hd; have hlt5 := lt_heap HS5.out.sv.b5; have q0 := cell_of (j := 0) HS5.out.sv.b5 rfl; have q1 := cell_of (j := 1) HS5.out.sv.b5 rfl; have q2 := cell_of (j := 2) HS5.out.sv.b5 rfl; have q3 := cell_of (j := 3) HS5.out.sv.b5 rfl; have y0 : W5.frozen? ⟨w3.heap.size, 0, none⟩ = false := frz HS5.out.sv.b5; have y1 : W5.frozen? ⟨w3.heap.size, 1, none⟩ = false := frz HS5.out.sv.b5; have y2 : W5.frozen? ⟨w3.heap.size, 2, none⟩ = false := frz HS5.out.sv.b5; have y3 : W5.frozen? ⟨w3.heap.size, 3, none⟩ = false := frz HS5.out.sv.b5; clear hd hb5 HCS d0 d1 d2 d3)
              go_meet
              case rel => exact ⟨rfl, Lib.hid ⟨_, _, _, _, (lf.toNat : Int) % 40, by omega, by omega, by simp, HS5.out.store HD5.out⟩⟩
          case rest =>
            obtain ⟨rfl, HE⟩ := hcut
            clear e92 HS
            obtain ⟨y0, y1, y2, y3, z, hz1, hz2, hz3, hS⟩ := id HE.out
            have HS := Lib.hid hS
            clear hS HE
            have hk8 : k < 8 := by omega
            have hsv := surv HW.out (show k + 1 < 4294967296 by omega) HFIT.out hz1 hz2
            have CS := syncW_any wc _ (logOf D acc) _ HS.out.log (fit_of_used (by have := HFIT.out; have := okB_sized HW.out.ok; show used (recs D.sectors ++ acc) ≤ 4096; omega)) _ _ HS.out.sv.disk
            have l0 := cell_of (j := 0) HS.out.b10 rfl
            have l1 := cell_of (j := 1) HS.out.b10 rfl
            have l2 := cell_of (j := 2) HS.out.b10 rfl
            have d0 := cell_of (j := 0) HS.out.sv.b5 rfl
            have d1 := cell_of (j := 1) HS.out.sv.b5 rfl
            have d2 := cell_of (j := 2) HS.out.sv.b5 rfl
            have d3 := cell_of (j := 3) HS.out.sv.b5 rfl
            have HZ := Lib.hid (And.intro hz1 (And.intro hz2 hz3))
            have HCS := Lib.hid CS
            clear CS hz1 hz2 hz3
            rcases hsv with ⟨E, e1, e2, e3⟩ | ⟨hz0, E, kk, e1, e2, e3⟩
            · rw [e1] at HCS
              have HE2 := Lib.hid e2
              have HE3 := Lib.hid e3
              clear e1 e2 e3
              go_wp2_with fail
              clear l0 l1 l2 d0 d1 d2 d3
              refine HCS.out.mono ?_
              rintro e W8 ⟨lv, dv, rfl, hl, hd, hb⟩
              obtain ⟨A8, c8, rfl, hl⟩ := hl.form (n := n0) (s := (n0 : Int)) (by rw [HN0.out]) (by rw [HN0.out])
              obtain ⟨sA8, sc8, pA8, pc8, rfl, -⟩ := hd.parts
              have HL8 := Lib.hid (hl.matR.mono (M' := NB [n10, n9, w3.heap.size]) fun q _ hq => NB.new HS.out.sv.inw hq)
              have HD8 := Lib.hid (hd.mono (M' := NB [n10, n9, w3.heap.size]) fun q _ hq => NB.new HS.out.sv.inw hq)
              replace HS := Lib.hid (HS.out.next hb)
              clear HCS hl hd hb
              have l1 := cell_of (j := 1) HS.out.b10 rfl
              have hlt10 := lt_heap HS.out.b10
              have hnn : ((n0 : Int) != (n0 : Int)) = false := by simp
              go_wp2_with fail
              refine nameW fun W9 hW9 => ?_
              have hb9 : Below W8.heap.size W8 W9 := by rw [hW9.out]; exact ((Below.refl _ _).alloc (Nat.le_refl _) _).alloc (by simp) _
              have hb17 : W9.heap[W8.heap.size + 1]? = some (.cells #[.slice sA8 E.sectors.length sc8, .slice pA8 E.pending.length pc8, .int .i64 E.left, .bool E.stopped] 25 (0, 0)) := by rw [hW9.out]; exact heap2_1 _ _ _
              obtain ⟨n17, hn17⟩ : ∃ n17, n17 = W8.heap.size + 1 := ⟨_, rfl⟩
              rw [← hn17] at hb17 ⊢
              have HB17 := Lib.hid hb17
              replace HL8 := Lib.hid (HL8.out.below hb9)
              replace HD8 := Lib.hid (HD8.out.below hb9)
              replace HS := Lib.hid (HS.out.next hb9)
              clear hW9 hb9 hb17 hn17 hlt10 l1 hnn
              have hcmp := sameRecs_any W9 _ _ (recs D.sectors ++ acc) (recs D.sectors ++ acc) _ _ (by rw [← HN0.out]; have := HN0B.out; omega) (by rw [← HN0.out]; have := HN0B.out; omega) HL8.out HS.out.log.matR
              refine (hcmp.mono (R' := fun e w' => e = Ending.returned (.bool true) ∧ Below W9.heap.size W9 w') fun e w' ⟨he, m, hw⟩ => ⟨by rw [he, decide_eq_true rfl], by rw [hw]; exact belowN (Below.refl _ _) _⟩).mono ?_
              rintro e W10 ⟨rfl, hb⟩
              replace HB17 := Lib.hid ((hb.block _ (lt_heap HB17.out)).trans HB17.out)
              replace HL8 := Lib.hid (HL8.out.below hb)
              replace HD8 := Lib.hid (HD8.out.below hb)
              replace HS := Lib.hid (HS.out.next hb)
              clear hb hcmp
              have l1 := cell_of (j := 1) HS.out.b10 rfl
              have q0 := cell_of (j := 0) HB17.out rfl
              have q1 := cell_of (j := 1) HB17.out rfl
              have q2 := cell_of (j := 2) HB17.out rfl
              have q3 := cell_of (j := 3) HB17.out rfl
              go_wp2_with fail
              clear l1 q0 q1 q2 q3
              refine (restart_any W10 _ E _ HD8.out).mono ?_
              rintro e W11 ⟨v11, rfl, hd, hb⟩
              obtain ⟨sA9, sc9, pA9, pc9, rfl, -⟩ := hd.parts
              have HD9 := Lib.hid hd
              replace HS := Lib.hid (HS.out.next hb)
              clear hd hb HB17
              have hlt5 := lt_heap HS.out.sv.b5
              have q0 := cell_of (j := 0) HS.out.sv.b5 rfl
              have q1 := cell_of (j := 1) HS.out.sv.b5 rfl
              have q2 := cell_of (j := 2) HS.out.sv.b5 rfl
              have q3 := cell_of (j := 3) HS.out.sv.b5 rfl
              have f0 : W11.frozen? ⟨w3.heap.size, 0, none⟩ = false := frz HS.out.sv.b5
              have f1 : W11.frozen? ⟨w3.heap.size, 1, none⟩ = false := frz HS.out.sv.b5
              have f2 : W11.frozen? ⟨w3.heap.size, 2, none⟩ = false := frz HS.out.sv.b5
              have f3 : W11.frozen? ⟨w3.heap.size, 3, none⟩ = false := frz HS.out.sv.b5
              go_wp2_with fail
              go_roundw
              case rel => exact ⟨k + 1, by omega, rfl, rfl, Lib.hid ⟨_, _, _, _, restartD E, (HS.out.store HD9.out).fin (by rw [HE3.out]; exact (HS.out.store HD9.out).log.matR), HE2.out⟩⟩
              case measure => simp [intOf]; omega
            · rw [e1] at HCS
              have HE2 := Lib.hid e2
              have HE3 := Lib.hid e3
              have hst : st = true := HZ.out.2.2 hz0
              subst hst
              clear e1 e2 e3 hz0
              go_wp2_with fail
              clear l0 l1 l2 d0 d1 d2 d3
              refine HCS.out.mono ?_
              rintro e W8 ⟨lv, dv, rfl, hl, hd, hb⟩
              obtain ⟨A8, c8, rfl, hl⟩ := hl.form (n := 0) (s := 0) rfl rfl
              obtain ⟨sA8, sc8, pA8, pc8, rfl, -⟩ := hd.parts
              have HD8 := Lib.hid (hd.mono (M' := NB [n10, n9, w3.heap.size]) fun q _ hq => NB.new HS.out.sv.inw hq)
              replace HS := Lib.hid (HS.out.next hb)
              clear HCS hl hd hb
              go_wp2_with fail
              refine nameW fun W9 hW9 => ?_
              have hb9 : Below W8.heap.size W8 W9 := by rw [hW9.out]; exact ((Below.refl _ _).alloc (Nat.le_refl _) _).alloc (by simp) _
              have hb17 : W9.heap[W8.heap.size + 1]? = some (.cells #[.slice sA8 E.sectors.length sc8, .slice pA8 E.pending.length pc8, .int .i64 E.left, .bool E.stopped] 25 (0, 0)) := by rw [hW9.out]; exact heap2_1 _ _ _
              obtain ⟨n17, hn17⟩ : ∃ n17, n17 = W8.heap.size + 1 := ⟨_, rfl⟩
              rw [← hn17] at hb17 ⊢
              have HB17 := Lib.hid hb17
              replace HD8 := Lib.hid (HD8.out.below hb9)
              replace HS := Lib.hid (HS.out.next hb9)
              clear hW9 hb9 hb17 hn17
              refine (restart_any W9 _ E _ HD8.out).mono ?_
              rintro e W10 ⟨v10, rfl, hd, hb⟩
              have HD10 := Lib.hid hd
              replace HB17 := Lib.hid ((hb.block _ (lt_heap HB17.out)).trans HB17.out)
              replace HD8 := Lib.hid (HD8.out.below hb)
              replace HS := Lib.hid (HS.out.next hb)
              clear hd hb
              go_wp2_with fail
              have hop := HE2.out.open_
              have CO := open_any W10 _ (restartD E) _ HD10.out
              rw [hop] at CO
              obtain ⟨m, hm⟩ : ∃ m, m = (recs (restartD E).sectors).length := ⟨_, rfl⟩
              have hmk : r ≤ m ∧ m ≤ n0 ∧ recs (restartD E).sectors = (recs D.sectors ++ acc).take m := by
                have h1 : m = r + min kk acc.length := by rw [hm, HE3.out, List.length_append, List.length_take, HR.out]
                have h2 : n0 = r + acc.length := by rw [HN0.out, List.length_append, HR.out]
                refine ⟨by omega, by omega, ?_⟩
                have h3 : (recs D.sectors ++ acc).take m = recs D.sectors ++ acc.take kk := by
                  rw [h1, HR.out, List.take_append, List.take_of_length_le (l := recs D.sectors) (by omega), Nat.add_sub_cancel_left]
                  congr 1
                  rw [List.take_eq_take_iff]; omega
                rw [HE3.out, h3]
              have HMK := Lib.hid hmk
              have HM := Lib.hid hm
              refine CO.mono ?_
              rintro e W11 ⟨v11, rfl, hl, hb⟩
              obtain ⟨A11, c11, rfl, hl⟩ := hl.form (n := m) (s := (m : Int)) (by rw [hm]; simp [logOf]) (by rw [hm]; rfl)
              have HL11 := Lib.hid (hl.matR.mono (M' := NB [n10, n9, w3.heap.size]) fun _ _ hM => NB.ge HS.out.sv.inw hM)
              replace HB17 := Lib.hid ((hb.block _ (lt_heap HB17.out)).trans HB17.out)
              replace HD8 := Lib.hid (HD8.out.below hb)
              replace HS := Lib.hid (HS.out.next hb)
              clear hop CO hl hb hm hmk HD10
              go_upto_region 39 with fail
              refine nameC fun W12 hW12 => ?_
              have hb12 : Below W11.heap.size W11 W12 := by rw [hW12.out]; exact (Below.refl _ _).alloc (Nat.le_refl _) _
              obtain ⟨n19, hn19⟩ : ∃ n19, n19 = W11.heap.size := ⟨_, rfl⟩
              have hb19 : W12.heap[n19]? = some (.cells #[.int .i64 ((restartD E).sectors.length : Int), .slice A11 m c11, .int .i64 (m : Int)] 29 (0, 0)) := by rw [hW12.out, hn19]; exact heap_alloc_new _ _
              rw [← hn19]
              have HB19 := Lib.hid hb19
              replace HB17 := Lib.hid ((hb12.block _ (lt_heap HB17.out)).trans HB17.out)
              replace HD8 := Lib.hid (HD8.out.below hb12)
              replace HL11 := Lib.hid (HL11.out.below hb12)
              replace HS := Lib.hid (HS.out.next hb12)
              clear hW12 hb12 hn19 hb19
              have e91 : W12.cell? ⟨n9, 1, none⟩ = some (.bool true) := cell_of (j := 1) HS.out.b9 rfl
              have l1 : W12.cell? ⟨n10, 1, none⟩ = some (.slice A n0 c0) := cell_of (j := 1) HS.out.b10 rfl
              have z1 : W12.cell? ⟨n19, 1, none⟩ = some (.slice A11 m c11) := cell_of (j := 1) HB19.out rfl
              obtain ⟨hm1, hm2, hm3⟩ := HMK.out
              have hm0 := HM.out
              have hcap : n0 ≤ c0 ∧ c0 ≤ 9223372036854775807 := by
                obtain ⟨A', c', e, q1, q2, -⟩ := HS.out.log.matR
                simp only [Value.slice.injEq] at e
                rw [e.2.1, e.2.2]; exact ⟨q1, q2⟩
              have hmt : IsMat W12 (NB [n10, n9, w3.heap.size]) (.slice A m c0) (recs (restartD E).sectors) := by
                obtain ⟨A', c', e, q1, q2, q3⟩ := HS.out.log.matR
                simp only [Value.slice.injEq] at e
                have hq : ((recs D.sectors ++ acc).take m).length = m := by rw [List.length_take, ← HN0.out]; omega
                rw [hm3]
                exact ⟨A, c0, by rw [hq], by rw [hq]; omega, hcap.2, e.1 ▸ q3.take m⟩
              have hn4 := HN0B.out
              have CA := fun j => Lib.hid ((sameRecs_any (W12.drewN j) _ _ (recs (restartD E).sectors) (recs (restartD E).sectors) (.slice A11 m c11) (.slice A m c0) (by omega) (by omega) (by have := HL11.out.below (below_drewN (Below.refl W12.heap.size W12) j); rwa [show (logOf (restartD E) []).recs = recs (restartD E).sectors from List.append_nil _] at this) (hmt.below (below_drewN (Below.refl W12.heap.size W12) j))).mono (R' := fun e w' => e = Ending.returned (.bool true) ∧ ∃ n, w' = (W12.drewN j).drewN n) fun e w' ⟨he, hw⟩ => ⟨by rw [he, decide_eq_true rfl], hw⟩)
              have i1 : decide ((m : Int) < (r : Int)) = false := by rw [decide_eq_false_iff_not]; omega
              have i2 : decide ((n0 : Int) < (m : Int)) = false := by rw [decide_eq_false_iff_not]; omega
              have i11 : decide (m < r) = false := by rw [decide_eq_false_iff_not]; omega
              have i21 : decide (n0 < m) = false := by rw [decide_eq_false_iff_not]; omega
              have i3 : (0 : Int) ≤ (m : Int) := by omega
              have i4 : (m : Int) ≤ (c0 : Int) := by omega
              have i5 : m ≤ c0 := by omega
              clear hmt hcap hm0 hm1 hm2 hm3 hn4
              have i6 : m ≤ 140737488355328 := by have := HMK.out.2.1; have := HN0B.out; omega
              go_quiet ((go_at_call 24; exact Calls.quiet_of (CA _).out))
              refine nameG fun W13 hW13 => ?_
              have hb13 : Below W12.heap.size W12 W13 := by rw [hW13.out]; exact below_drewN (Below.refl _ _) _
              replace HB19 := Lib.hid ((hb13.block _ (lt_heap HB19.out)).trans HB19.out)
              replace HB17 := Lib.hid ((hb13.block _ (lt_heap HB17.out)).trans HB17.out)
              replace HD8 := Lib.hid (HD8.out.below hb13)
              replace HL11 := Lib.hid (HL11.out.below hb13)
              replace HS := Lib.hid (HS.out.next hb13)
              clear hW13 hb13 CA i1 i2 i11 i21 i3 i4 i5 i6 e91 l1 z1
              have z1 : W13.cell? ⟨n19, 1, none⟩ = some (.slice A11 m c11) := cell_of (j := 1) HB19.out rfl
              have q0 := cell_of (j := 0) HB17.out rfl
              have q1 := cell_of (j := 1) HB17.out rfl
              have q2 := cell_of (j := 2) HB17.out rfl
              have q3 := cell_of (j := 3) HB17.out rfl
              go_wp2_with fail
              clear z1 q0 q1 q2 q3
              refine (restart_any W13 _ E _ HD8.out).mono ?_
              rintro e W14 ⟨v14, rfl, hd, hb⟩
              obtain ⟨sA9, sc9, pA9, pc9, rfl, -⟩ := hd.parts
              have HD9 := Lib.hid hd
              replace HS := Lib.hid (HS.out.next hb)
              replace HL11 := Lib.hid (HL11.out.below hb)
              clear hd hb HB17 HB19 HD8
              have hlt5 := lt_heap HS.out.sv.b5
              have q0 := cell_of (j := 0) HS.out.sv.b5 rfl
              have q1 := cell_of (j := 1) HS.out.sv.b5 rfl
              have q2 := cell_of (j := 2) HS.out.sv.b5 rfl
              have q3 := cell_of (j := 3) HS.out.sv.b5 rfl
              have f0 : W14.frozen? ⟨w3.heap.size, 0, none⟩ = false := frz HS.out.sv.b5
              have f1 : W14.frozen? ⟨w3.heap.size, 1, none⟩ = false := frz HS.out.sv.b5
              have f2 : W14.frozen? ⟨w3.heap.size, 2, none⟩ = false := frz HS.out.sv.b5
              have f3 : W14.frozen? ⟨w3.heap.size, 3, none⟩ = false := frz HS.out.sv.b5
              go_wp2_with fail
              go_roundw
              case rel => exact ⟨k + 1, by omega, rfl, rfl, Lib.hid ⟨_, _, _, _, restartD E, (HS.out.store HD9.out).fin (by
                have hk : Off w3.heap.size W14 ((((W14.setCell ⟨w3.heap.size, 0, none⟩ (.slice sA9 (restartD E).sectors.length sc9)).setCell ⟨w3.heap.size, 1, none⟩ (.slice pA9 (restartD E).pending.length pc9)).setCell ⟨w3.heap.size, 2, none⟩ (.int .i64 (restartD E).left)).setCell ⟨w3.heap.size, 3, none⟩ (.bool (restartD E).stopped)) := ((((Off.refl _ _).setCell 0 _).setCell 1 _).setCell 2 _).setCell 3 _
                have := HL11.out.keep fun p hp _ => hk p (fun e => hp (by rw [e]; simp))
                rwa [show (logOf (restartD E) []).recs = recs (restartD E).sectors from List.append_nil _] at this), HE2.out⟩⟩
              case measure => simp [intOf]; omega
    · have hk1 : ¬ (k : Int) < (cs.length : Int) := by omega
      have HR := Lib.hid hr
      have hrL : r ≤ 140737488355328 := by
        rw [hr]
        have := recs_len (okB_sized HW.out.ok).2
        have := okB_sized HW.out.ok
        omega
      clear hr
      go_wp2_with fail
      have hop := HW.out.open_
      have CO := open_any wr _ D _ HS.out.disk
      rw [hop] at CO
      refine CO.mono ?_
      rintro e W4 ⟨v4, rfl, hl, hb⟩
      obtain ⟨rA, rc, rfl, hl⟩ := hl.form (n := r) (s := (r : Int)) (by rw [HR.out]; simp [logOf]) (by rw [HR.out]; rfl)
      have HL4 := Lib.hid hl.matR
      replace HS := Lib.hid (HS.out.next hb)
      have HRL := Lib.hid hrL
      clear hop CO hl hb d0 d1 d2 d3 hrL
      go_wp2_with fail
      refine nameW fun W5 hW5 => ?_
      have hb5 : Below W4.heap.size W4 W5 := by rw [hW5.out]; exact (Below.refl _ _).alloc (Nat.le_refl _) _
      have hm5 := HL4.out.below hb5
      have hk5 := HS.out.kept.below hb5
      have HB := Lib.hid (HS.out.below.trans (hb5.mono HS.out.below.size))
      rw [show (logOf D []).recs = recs D.sectors from List.append_nil _] at hm5
      refine ((sameRecs_any W5 _ _ (recs D.sectors) (recs D.sectors) _ _ (by rw [← HR.out]; exact HRL.out) (by rw [← HR.out]; exact HRL.out) hm5 hk5).mono (R' := fun e w' => e = Ending.returned (.bool true) ∧ Below W5.heap.size W5 w') fun e w' ⟨he, m, hw⟩ => ⟨by rw [he, decide_eq_true rfl], by rw [hw]; exact belowN (Below.refl _ _) _⟩).mono ?_
      rintro e W6 ⟨rfl, hb⟩
      replace HB := Lib.hid (HB.out.trans (hb.mono HB.out.size))
      clear hm5 hk5 hW5 hb5 hb HS HL4
      go_wp2_with fail
      go_ret
      exact ⟨rfl, HB.out⟩
end Go.Proofs.Ytocjhepiooljpaa
