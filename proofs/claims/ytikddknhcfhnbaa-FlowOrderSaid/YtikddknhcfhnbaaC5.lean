/- Max. -/
import Derived.Test.YtikddknhcfhnbaaC4
import Derived.Laws.EntriesVeiled
namespace Go.Proofs.Ytikddknhcfhnbaa
open Go.RowKit Go.Deep
def MaxW (w : World) (n : NetD) (e : Ending) (w' : World) : Prop :=
  Below w.heap.size w w' ∧ ((chkN n = false ∧ e = .returned (.tuple #[.slice none 0 0, .int .i64 0, .slice none 0 0, .int .i64 270])) ∨
    (∃ V fl val sd v1 v2, NOk n V ∧ chkN n = true ∧ e = .returned (.tuple #[v1, .int .i64 val, v2, .int .i64 0]) ∧ MaxP n V fl val sd ∧ IsInts w' (fun b => w.heap.size ≤ b) v1 fl ∧ IsInts w' (fun b => w.heap.size ≤ b) v2 sd))
set_option maxRecDepth 20000 in
set_option maxHeartbeats 4000000 in
theorem max_any (w : World) (M : Nat → Prop) (v : Value) (n : NetD) (h : IsNet w M v n) : Calls Try.prog 18 #[v] w (MaxW w n) := by
  have CC := fun W (hb : Below w.heap.size w W) => Lib.hid (fcheck_any W M v n (h.below hb))
  have HNet := Lib.hid h
  obtain ⟨va, rfl, hva⟩ := id h
  have HVA := Lib.hid hva
  clear h hva
  go_enter Try.func18, Try.ntmps18
  go_wp2_with fail
  refine nameW fun W1 hW1 => ?_
  have hB1 : Below w.heap.size w W1 := by rw [hW1.out]; exact (Below.refl _ _).alloc (Nat.le_refl _) _
  have hk1 : W1.heap[w.heap.size]? = some (.cells #[.int .i64 n.vs, va] 24 (0, 0)) := by rw [hW1.out, heap_alloc_if, if_pos rfl]
  clear hW1
  refine (CC W1 hB1).out.mono ?_
  rintro e w2 ⟨rfl, hb2⟩
  have hk2 := (hb2.block _ (lt_heap hk1)).trans hk1
  have HB2 := Lib.hid (hB1.trans (hb2.mono hB1.size))
  have HK2 := Lib.hid hk2
  have c0 : w2.cell? ⟨w.heap.size, 0, none⟩ = some (.int .i64 n.vs) := cell_of hk2 rfl
  have c1 : w2.cell? ⟨w.heap.size, 1, none⟩ = some va := cell_of hk2 rfl
  clear hb2 hk1 hk2 hB1 CC
  cases hch : chkN n
  · rw [chkF_no hch]
    have HCH := Lib.hid hch
    clear hch
    go_wp2_with fail
    refine bodyPost_ret (v := .tuple #[.slice none 0 0, .int .i64 0, .slice none 0 0, .int .i64 270]) (by simp [results, Try.results18, go_sem]) rfl ?_
    exact ⟨HB2.out, .inl ⟨HCH.out, rfl⟩⟩
  · rw [chkF_yes hch]
    obtain ⟨V, hn⟩ := nok_of hch
    have HCH := Lib.hid hch
    have HN := Lib.hid hn
    have hVs := hn.vs
    have hV2 := hn.lo
    have hV5 := hn.hi
    clear hch hn
    have hnet := HNet.out
    rw [hVs] at hnet c0 ⊢
    have HNet := Lib.hid hnet
    have CL := Lib.hid (newLinks_any w2 M _ n (hnet.below HB2.out) HN.out)
    clear hnet
    go_wp2_with fail
    refine CL.out.mono ?_
    rintro e w3 ⟨base, g, lb, X, rfl, hl, hg1, hg2, hg3, hg4, hb3⟩
    have HL := Lib.hid hl
    have HB3 := Lib.hid (HB2.out.trans (hb3.mono HB2.out.size))
    have hk3 := (hb3.block _ (lt_heap HK2.out)).trans HK2.out
    have HK3 := Lib.hid hk3
    have c0 : w3.cell? ⟨w.heap.size, 0, none⟩ = some (.int .i64 (V : Int)) := by rw [← hVs]; exact cell_of hk3 rfl
    have hNw2 := lt_heap HK2.out
    have hNw3 : w.heap.size < w3.heap.size := lt_heap hk3
    clear hl hb3 hk3 CL HB2 HK2
    have hwV : IntKind.i64.wrap ((V : Int) - 1) = (V : Int) - 1 := IntWalk.i64_in _ (by omega)
    go_upto_region 7 with fail
    refine nameC fun W4 hW4 => ?_
    obtain ⟨bh, hbh⟩ : ∃ bh, bh = w3.heap.size := ⟨_, rfl⟩
    obtain ⟨bs, hbs⟩ : ∃ bs, bs = w3.heap.size + 1 := ⟨_, rfl⟩
    obtain ⟨bv, hbv⟩ : ∃ bv, bv = w3.heap.size + 1 + 1 := ⟨_, rfl⟩
    have hM : MaxM w W4 n V va X bh bs bv g lb base (foT n.arcs n.arcs.length) (fun _ => 0) := by
      have hb : Below w3.heap.size w3 W4 := by rw [hW4.out]; exact alloc3_below _ _ _ _
      refine ⟨HB3.out.trans (hb.mono HB3.out.size), (hb.block _ hNw3).trans HK3.out, ?_, ?_, ⟨.slice none 0 0, ?_⟩, HL.out.below hb, fun v hv b hb => by rw [hbh]; exact (own_lt (HL.out.adj.own v hv) b hb).2, ?_⟩
      · rw [hW4.out, hbh]; exact alloc3_0 _ _ _ _ _
      · rw [hW4.out, hbs, heap_alloc_if, if_neg (by simp), heap_alloc_if, if_pos (by simp)]
      · rw [hW4.out, hbv, heap_alloc_if, if_pos (by simp)]
      · have a := HL.out.adj.lt; have b := HL.out.lt; omega
    have HM := Lib.hid hM
    have hbN : w.heap.size < bh := by omega
    rw [← hbv, ← hbs, ← hbh]
    have hbsz : bv < W4.heap.size := by obtain ⟨x, hx⟩ := hM.lvb; exact lt_heap hx
    clear hM hW4 hbh hbs hbv HB3 HK3 HL c0 hNw3 hNw2 hg1 hg2 hg3 hg4
    obtain ⟨Bd, hBd1, hBd2⟩ : ∃ Bd : Nat, (∀ fo bk val, Res n fo bk → BalP n V bk val → val ≤ (Bd : Int)) ∧ Bd ≤ 4398046511104 := ⟨4398046511104, fun fo bk val h1 h2 => h2.bound h1 HN.out, Nat.le_refl _⟩
    have HBd1 := Lib.hid hBd1
    have HBd2 := Lib.hid hBd2
    clear hBd1 hBd2
    go_wp2_with fail
    go_loopg [3] (Bd + 1) (fun gk q3 wr => ∃ fo bk val, q3 = .int .i64 val ∧ Hid (MaxM w wr n V va X bh bs bv g lb base fo bk) ∧ Hid (Res n fo bk) ∧ Hid (BalP n V bk val) ∧ 0 ≤ val ∧ (gk : Int) + val = (Bd : Int) + 1)
    case atStart => exact ⟨_, _, 0, rfl, HM, Lib.hid (Res.start HN.out), Lib.hid BalP.start, Int.le_refl _, by omega⟩
    case round =>
      obtain ⟨fo, bk, val, rfl, HMr, HRes, HBal, hv0, hgk⟩ := hrel
      clear HM hbsz
      have CLv := Lib.hid (levels_any wr M _ n (HNet.out.below HMr.out.bel) HN.out HMr.out.links)
      have h0 : wr.cell? ⟨bh, 0, none⟩ = some (.pointer (some ⟨g, 0, none⟩)) := cell_of HMr.out.gh rfl
      have n0 : wr.cell? ⟨w.heap.size, 0, none⟩ = some (.int .i64 (V : Int)) := by rw [← hVs]; exact cell_of HMr.out.nb rfl
      have n1 : wr.cell? ⟨w.heap.size, 1, none⟩ = some va := cell_of HMr.out.nb rfl
      go_wp2_with fail
      refine CLv.out.mono ?_
      rintro e w5 ⟨bl, lv, rfl, hbl, hrow, hlev, hb5⟩
      have HM5 := Lib.hid (HMr.out.below hb5)
      have HLv := Lib.hid hlev
      have HRow := Lib.hid hrow
      have hbvr : bv < wr.heap.size := by obtain ⟨x, hx⟩ := HMr.out.lvb; exact lt_heap hx
      obtain ⟨x5, hx5⟩ := HM5.out.lvb
      have v5 : w5.cell? ⟨bv, 0, none⟩ = some x5 := cell_of hx5 rfl
      have f5 : w5.frozen? ⟨bv, 0, none⟩ = false := frz_at hx5
      clear hrow hlev hb5 CLv h0 n0 n1 hx5
      go_upto_region 8 with fail
      refine nameC fun W6 hW6 => ?_
      obtain ⟨hM6, hv6⟩ := HM5.out.setv (.slice (some ⟨bl, 0, none⟩) V V)
      have hR6 := HRow.out.setOther (a := ⟨bv, 0, none⟩) (by show bl ≠ bv; omega) (.slice (some ⟨bl, 0, none⟩) V V)
      rw [← hW6.out] at hM6 hv6 hR6
      have HM6 := Lib.hid hM6
      have HV6 := Lib.hid hv6
      have HR6 := Lib.hid hR6
      have v6 : W6.cell? ⟨bv, 0, none⟩ = some (.slice (some ⟨bl, 0, none⟩) V V) := cell_of hv6 rfl
      have s6 : W6.cell? ⟨bs, 0, none⟩ = some (.int .i64 ((V : Int) - 1)) := cell_of hM6.sk rfl
      have l6 := hR6.cell (i := V - 1) (by omega)
      have hVn : ((V : Int) - 1).toNat = V - 1 := by omega
      have hV0 : (0 : Int) ≤ (V : Int) - 1 := by omega
      have hV1 : (V : Int) - 1 < (V : Int) := by omega
      obtain ⟨y, hy⟩ : ∃ y, y = lv (V - 1) := ⟨_, rfl⟩
      rw [← hy] at l6
      have HY := Lib.hid hy
      have n6 : W6.cell? ⟨w.heap.size, 0, none⟩ = some (.int .i64 (V : Int)) := by rw [← hVs]; exact cell_of hM6.nb rfl
      have hN6 : w.heap.size < W6.heap.size := lt_heap hM6.nb
      clear hM6 hv6 hR6 hW6 hy v5 f5 HM5 HMr HRow
      by_cases hy0 : y < 0
      · have h6 : W6.cell? ⟨bh, 0, none⟩ = some (.pointer (some ⟨g, 0, none⟩)) := cell_of HM6.out.gh rfl
        have g6 := HM6.out.links.left.at_
        have hlen := HN.out.len
        have HQ : Hid (MaxQ n V fo bk lv val) := Lib.hid ⟨HRes.out, HBal.out, HLv.out, by rw [← HY.out]; exact hy0, hv0⟩
        go_wp2_with fail
        clear h6 g6 l6 s6 n6 hy0
        go_loopg [2, 51] n.arcs.length (fun gj q2 q51 wx => ∃ k : Nat, k ≤ n.arcs.length ∧ gj = n.arcs.length - k ∧ q51 = .int .i64 (k : Int) ∧ Hid (Below W6.heap.size W6 wx) ∧ Hid (wx.ownsRow W6.heap.size 3 1 q2 (flT bk k).length ((flT bk k).map i64v)))
        case atStart => exact ⟨0, Nat.zero_le _, rfl, rfl, Lib.hid (Below.refl _ _), Lib.hid (own_nil _ _ _ _)⟩
        case round =>
          obtain ⟨k, hk, hgj, rfl, HB, HO⟩ := hrel
          have hown := HO.out
          obtain ⟨A2, d2, rfl⟩ := own_sl hown
          clear hown
          have hll : (flT bk k).length = k := flT_len bk k
          have HLL := Lib.hid hll
          by_cases hkl : k < n.arcs.length
          · have hkI : (k : Int) < (n.arcs.length : Int) := by omega
            have hk0 : (0 : Int) ≤ (k : Int) := by omega
            have hLr := HM6.out.links.below HB.out
            have p0 := hLr.left.fo k hkl
            have p1 := hLr.left.bk k hkl
            have hsz := HB.out.size
            clear hLr hll
            go_upto_region 18 with fail
            refine nameC fun W8 hW8 => ?_
            have c8 : W8.cell? ⟨wr.heap.size, 1, none⟩ = some (.int .i64 (bk k)) := cell_of (g := wr.heap.size) (cs := #[.int .i64 (fo k), .int .i64 (bk k)]) (t := 65) (z := (0, 0)) (by rw [hW8.out, heap_alloc_if, if_pos rfl]) rfl
            have hO8 : W8.ownsRow W6.heap.size 3 1 (.slice A2 (flT bk k).length d2) (flT bk k).length ((flT bk k).map i64v) := by rw [hW8.out]; exact World.ownsRow.alloc HO.out _
            have HO8 := Lib.hid hO8
            have HB8 : Hid (Below W6.heap.size W6 W8) := Lib.hid (by rw [hW8.out]; exact HB.out.alloc hsz _)
            have hz8 : W6.heap.size ≤ W8.heap.size := HB8.out.size
            have hl8 : (flT bk k).length < 100000 := by rw [HLL.out]; omega
            clear hO8 hW8 p0 p1 HO HB
            go_wp2_with (refine wpList_int rfl (.tmp 55) (.tmp 58) rfl W6.heap.size (flT bk k) (bk k) rfl (World.ownsRow.alloc HO8.out _) rfl (cell_new1 _ _ _) hl8 (Nat.le_trans hz8 (by simp)) ?_; intro A9 d9 w9 H9)
            have HB9 : Hid (Below W6.heap.size W6 w9) := Lib.hid ((HB8.out.alloc hz8 _).trans H9.out.2.1)
            have HO9 : Hid (w9.ownsRow W6.heap.size 3 1 (.slice A9 ((flT bk k).length + 1) d9) (flT bk (k + 1)).length ((flT bk (k + 1)).map i64v)) := Lib.hid H9.out.1
            go_roundg (n.arcs.length - (k + 1))
            case measure => omega
            case rel => exact ⟨k + 1, by omega, rfl, by go_num, HB9, HO9⟩
          · have hnl : ¬ (k : Int) < (n.arcs.length : Int) := by omega
            obtain rfl : k = n.arcs.length := by omega
            have hlr := HM6.out.below HB.out
            have l8 : wr.cell? ⟨bv, 0, none⟩ = some (.slice (some ⟨bl, 0, none⟩) V V) := cell_of ((HB.out.block _ (lt_heap HV6.out)).trans HV6.out) rfl
            have HRr := Lib.hid (HR6.out.of_block (HB.out.block _ HR6.out.lt))
            have HNr := Lib.hid (HM6.out.bel.trans (HB.out.mono HM6.out.bel.size))
            clear hlr hll
            go_wp2_with fail
            clear l8
            go_loopg [4, 63] V (fun gj q4 q63 wx => ∃ k : Nat, k ≤ V ∧ gj = V - k ∧ q63 = .int .i64 (k : Int) ∧ Hid (Below wr.heap.size wr wx) ∧ Hid (wx.ownsRow wr.heap.size 3 1 q4 (sdT lv k).length ((sdT lv k).map i64v)))
            case atStart => exact ⟨0, Nat.zero_le _, rfl, rfl, Lib.hid (Below.refl _ _), Lib.hid (own_nil _ _ _ _)⟩
            case round =>
              obtain ⟨q, hq, hgq, rfl, HBq, HOq⟩ := hrel
              have hown := HOq.out
              obtain ⟨A4, d4, rfl⟩ := own_sl hown
              clear hown
              have hql := sdT_len lv q
              by_cases hqV : q < V
              · have hqI : (q : Int) < (V : Int) := by omega
                have hq0 : (0 : Int) ≤ (q : Int) := by omega
                have lq := (HRr.out.of_block (HBq.out.block _ HRr.out.lt)).cell hqV
                obtain ⟨x, hx⟩ : ∃ x, x = lv q := ⟨_, rfl⟩
                rw [← hx] at lq
                have HX := Lib.hid hx
                clear hx
                by_cases hx0 : 0 ≤ x
                · have hlq : (sdT lv q).length < 100000 := by omega
                  have hszq := HBq.out.size
                  have HE : Hid (sdT lv (q + 1) = sdT lv q ++ [(q : Int)]) := Lib.hid (by
                    show sdT lv q ++ (if 0 ≤ lv q then [(q : Int)] else []) = _
                    rw [if_pos (by rw [← HX.out]; exact hx0)])
                  clear hql
                  go_wp2_with (refine wpList_int rfl (.tmp 70) (.tmp 72) rfl _ (sdT lv q) (q : Int) rfl (World.ownsRow.alloc HOq.out _) rfl (cell_new1 _ _ _) hlq (Nat.le_trans hszq (by simp)) ?_; intro A9 d9 w9 H9)
                  have HB9 := Lib.hid ((HBq.out.alloc hszq _).trans H9.out.2.1)
                  have hO9 := H9.out.1
                  rw [← HE.out] at hO9
                  have HO9 := Lib.hid hO9
                  clear hO9
                  go_roundg (V - (q + 1))
                  case measure => omega
                  case rel => exact ⟨q + 1, by omega, rfl, by go_num, HB9, HO9⟩
                · have HE : Hid (sdT lv (q + 1) = sdT lv q) := Lib.hid (by
                    show sdT lv q ++ (if 0 ≤ lv q then [(q : Int)] else []) = _
                    rw [if_neg (by rw [← HX.out]; exact hx0), List.append_nil])
                  have hxn : x < 0 := by omega
                  go_wp2_with fail
                  go_roundg (V - (q + 1))
                  case measure => omega
                  case rel => exact ⟨q + 1, by omega, rfl, by go_num, HBq, Lib.hid (by rw [HE.out]; exact HOq.out)⟩
              · have hnq : ¬ (q : Int) < (V : Int) := by omega
                obtain rfl : q = V := by omega
                go_wp2_with fail
                refine bodyPost_ret (v := .tuple #[.slice A2 (flT bk n.arcs.length).length d2, .int .i64 val, .slice A4 (sdT lv q).length d4, .int .i64 0]) (by simp [results, Try.results18, go_sem]) rfl ?_
                refine ⟨HNr.out.trans (HBq.out.mono HNr.out.size), .inr ⟨q, flT bk n.arcs.length, val, sdT lv q, _, _, HN.out, HCH.out, rfl, ⟨fo, bk, lv, HQ.out, rfl, rfl⟩, ?_, ?_⟩⟩
                · have h1 := HM6.out.bel.size
                  exact IsSl.mono (IsSl.below (IsInts.ofOwn HO.out) (HBq.out)) (fun b _ hb => by omega) (by decide)
                · have h1 := HNr.out.size
                  exact IsSl.mono (IsInts.ofOwn HOq.out) (fun b _ hb => by omega) (by decide)
      · have hmk := fun W => makeNils V (by omega) W
        go_wp2_with fail
        clear hmk
        refine nameC fun W7 hW7 => ?_
        obtain ⟨bu, hbu⟩ : ∃ bu, bu = W6.heap.size := ⟨_, rfl⟩
        obtain ⟨bx, hbx⟩ : ∃ bx, bx = W6.heap.size + 1 := ⟨_, rfl⟩
        obtain ⟨bf, hbf⟩ : ∃ bf, bf = W6.heap.size + 1 + 1 := ⟨_, rfl⟩
        rw [← hbf, ← hbx, ← hbu] at hW7
        rw [← hbf, ← hbx, ← hbu]
        have hb7 : Below W6.heap.size W6 W7 := by rw [hW7.out]; exact alloc3_below _ _ _ _
        have hM7 := HM6.out.below hb7
        have hbv6 : bv < W6.heap.size := lt_heap HV6.out
        have hbl6 : bl < W6.heap.size := HR6.out.lt
        have hF7 : FAW w.heap.size W7 n V lv X bs bx bh w.heap.size bv bf bu g lb bl base := by
          refine hM7.faw (IsSl.mono HVA.out (fun _ _ _ => trivial) (by decide)) ?_ ((hb7.block _ hbv6).trans HV6.out) ?_ (HR6.out.of_block (hb7.block _ hbl6)) (by omega) (by omega) (by omega) (by omega) (by omega) (by omega) (by omega)
          · rw [hW7.out, hbx, heap_alloc_if, if_neg (by simp), heap_alloc_if, if_pos (by simp)]
          · rw [hW7.out, hbf, heap_alloc_if, if_pos (by simp)]; rfl
        have hD7 : DAW W7 bu lb n.arcs.length V (fun _ => 0) fo bk := by
          refine hM7.daw ⟨(nils V).toArray, ?_, by simp [nils], fun i hi => ?_⟩
          · rw [hW7.out, hbu]; exact alloc3_0 _ _ _ _ _
          · simp [nils, hi, i64v]
        have HF7 := Lib.hid hF7
        have HD7 := Lib.hid hD7
        have HM7 := Lib.hid hM7
        have hbvu : bv < bu := by omega
        clear hW7 hbu hbx hbf hb7 hF7 hD7 hM7 hbv6 hbl6 v6 s6 l6 n6 hN6 HM6 HV6 HR6
        go_loopg [3] (Bd + 1 - val.toNat) (fun gj q3 wx => ∃ us fo' bk' val', q3 = .int .i64 val' ∧ Hid (KB w.heap.size [bu, lb] W7 wx) ∧ Hid (DAW wx bu lb n.arcs.length V us fo' bk') ∧ Hid (AdvI n V lv fo' bk' us) ∧ Hid (BalP n V bk' val') ∧ val ≤ val' ∧ Hid (val' = val → us = (fun _ => 0) ∧ fo' = fo ∧ bk' = bk) ∧ (gj : Int) + val' = (Bd : Int) + 1)
        case atStart => exact ⟨_, fo, bk, val, rfl, Lib.hid (KB.refl _ _ _), HD7, Lib.hid (AdvI.start HRes.out), HBal, Int.le_refl _, Lib.hid fun _ => ⟨rfl, rfl, rfl⟩, by have := HBd1.out _ _ _ HRes.out HBal.out; omega⟩
        case round =>
          obtain ⟨us, fo1, bk1, val1, rfl, HK, HD, HI, HB, hvv, HSame, hgj⟩ := hrel
          have HF := Lib.hid (HF7.out.kp HK.out)
          have f0 : wr.cell? ⟨bf, 0, none⟩ = some (.func (.func 28) #[] #[.pointer (some ⟨bs, 0, none⟩), .pointer (some ⟨bx, 0, none⟩), .pointer (some ⟨bh, 0, none⟩), .pointer (some ⟨w.heap.size, 0, none⟩), .pointer (some ⟨bv, 0, none⟩), .pointer (some ⟨bf, 0, none⟩)]) := cell_of HF.out.fb rfl
          have hCA : Calls Try.prog 28 #[.int .i64 0, .int .i64 1073741824, .pointer (some ⟨bs, 0, none⟩), .pointer (some ⟨bx, 0, none⟩), .pointer (some ⟨bh, 0, none⟩), .pointer (some ⟨w.heap.size, 0, none⟩), .pointer (some ⟨bv, 0, none⟩), .pointer (some ⟨bf, 0, none⟩)] wr (AdvW w.heap.size wr n V lv bu lb 0 1073741824 us fo1 bk1) :=
            adv_any w.heap.size n V lv X bs bx bh w.heap.size bv bf bu g lb bl base HN.out HLv.out.rng V wr us fo1 bk1 0 1073741824 ⟨HF.out, HD.out, HI.out, by omega, by rw [HLv.out.zero]; exact Int.le_refl _⟩ (by rw [HLv.out.zero]; omega) (by decide) (Int.le_refl _)
          have HCA := Lib.hid hCA
          clear hCA
          go_wp2_with fail
          refine HCA.out.mono ?_
          rintro e w9 ⟨got, us9, fo9, bk9, rfl, hk9, hd9, hp9⟩
          have HK9 := Lib.hid (HK.out.trans hk9)
          have HD9 := Lib.hid hd9
          have HP9 := Lib.hid hp9
          have hgr := hp9.rng
          have HB9 := Lib.hid (HB.out.adv HN.out hp9)
          clear hk9 hd9 hp9 f0 HCA
          by_cases hg0 : got = 0
          · subst hg0
            go_wp2_with fail
            have hpos : val < val1 := by
              rcases Int.lt_or_le val val1 with q | q
              · exact q
              · exfalso
                obtain ⟨rfl, rfl, rfl⟩ := HSame.out (by omega)
                have := first_pos HN.out HP9.out (HLv.out.chn (V - 1) (by omega) (by rw [← HY.out]; omega))
                omega
            have hB9 : BalP n V bk9 val1 := by have := HB9.out; rwa [Int.add_zero] at this
            have hbd9 := HBd1.out _ _ _ HP9.out.i.res hB9
            go_roundg (Bd + 1 - val1.toNat)
            case measure => omega
            case rel => exact ⟨fo9, bk9, val1, rfl, Lib.hid (HM7.out.back HK9.out HD9.out hbvu), Lib.hid HP9.out.i.res, Lib.hid hB9, by omega, by omega⟩
          · have hbd9 := HBd1.out _ _ _ HP9.out.i.res HB9.out
            have hwg : IntKind.i64.wrap (val1 + got) = val1 + got := IntWalk.i64_in _ (by have := HBd2.out; omega)
            go_wp2_with fail
            go_roundg (Bd + 1 - (val1 + got).toNat)
            case measure => omega
            case rel => exact ⟨us9, fo9, bk9, val1 + got, rfl, HK9, HD9, Lib.hid HP9.out.i, HB9, by omega, Lib.hid fun e => by omega, by omega⟩
end Go.Proofs.Ytikddknhcfhnbaa
