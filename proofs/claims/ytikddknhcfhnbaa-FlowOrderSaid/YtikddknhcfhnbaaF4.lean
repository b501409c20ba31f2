/- Paths. -/
import Derived.Test.YtikddknhcfhnbaaG2
import Derived.Laws.EntriesVeiled
namespace Go.Proofs.Ytikddknhcfhnbaa
open Go.RowKit Go.Deep
set_option maxRecDepth 20000 in
set_option maxHeartbeats 4000000 in
theorem paths_any (w : World) (M1 M2 : Nat → Prop) (v1 v2 : Value) (n : NetD) (f : List Int) (h1 : IsNet w M1 v1 n) (h2 : IsInts w M2 v2 f) : Calls Try.prog 21 #[v1, v2] w (PathsW w n f) := by
  have CV := fun W (hb : Below w.heap.size w W) => Lib.hid (value_any W M1 M2 v1 v2 n f (h1.below hb) (h2.below hb))
  have HS := Lib.hid h2
  obtain ⟨va, rfl, hva⟩ := id h1
  have HA := Lib.hid hva
  obtain ⟨A, c, rfl, -⟩ := id hva
  obtain ⟨A2, c2, rfl, -⟩ := id h2
  clear h1 h2 hva
  cases hvb : valB n f
  · have HVB := Lib.hid hvb
    rw [valF_no hvb] at CV
    clear hvb
    go_enter Try.func21, Try.ntmps21
    go_wp2_with fail
    refine nameW fun W1 hW1 => ?_
    have hB1 : Below w.heap.size w W1 := by rw [hW1.out]; exact (Below.refl _ _).alloc (Nat.le_refl _) _
    clear hW1
    refine (CV W1 hB1).out.mono ?_
    rintro e w2 ⟨rfl, hb2⟩
    have HB2 := Lib.hid (hB1.trans (hb2.mono hB1.size))
    clear hb2 hB1 CV
    go_wp2_with fail
    refine bodyPost_ret (v := .tuple #[.slice none 0 0, .slice none 0 0, .int .i64 270]) (by simp [results, Try.results21, go_sem]) rfl ?_
    exact ⟨HB2.out, .inl ⟨HVB.out, rfl⟩⟩
  · obtain ⟨V, hn⟩ := nok_of (valB_parts hvb).1
    have HVB := Lib.hid hvb
    have HN := Lib.hid hn
    have hVs := hn.vs
    have hV2 := hn.lo
    have hV5 := hn.hi
    have hlen := hn.len
    have hfl : f.length = n.arcs.length := (valB_parts hvb).2.1
    have HL0 := Lib.hid (left_start hn hvb)
    rw [valF_yes hvb] at CV
    obtain ⟨v0, hv0⟩ : ∃ v, v = netF n f 0 n.arcs.length := ⟨_, rfl⟩
    rw [← hv0] at CV HL0
    rw [hVs] at CV ⊢
    have HFL := Lib.hid hfl
    clear hvb hn hv0 hfl
    go_enter Try.func21, Try.ntmps21
    go_wp2_with fail
    refine nameW fun W1 hW1 => ?_
    have hB1 : Below w.heap.size w W1 := by rw [hW1.out]; exact (Below.refl _ _).alloc (Nat.le_refl _) _
    have hk1 : W1.heap[w.heap.size]? = some (.cells #[.int .i64 (V : Int), .slice A n.arcs.length c] 24 (0, 0)) := by rw [hW1.out, heap_alloc_if, if_pos rfl]
    clear hW1
    refine (CV W1 hB1).out.mono ?_
    rintro e w2 ⟨rfl, hb2⟩
    have hk2 := (hb2.block _ (lt_heap hk1)).trans hk1
    have HB2 := Lib.hid (hB1.trans (hb2.mono hB1.size))
    have HK2 := Lib.hid hk2
    have hN2 := lt_heap hk2
    have CC := Lib.hid (clone_any w2 M2 _ f (HS.out.below HB2.out) (by have := HFL.out; omega))
    clear hb2 hk1 hk2 hB1 CV
    go_wp2_with fail
    refine CC.out.mono ?_
    rintro e w3 ⟨Ac, cc, rfl, hown, hb3⟩
    have HO3 := Lib.hid hown
    have HB3 := Lib.hid (HB2.out.trans (hb3.mono HB2.out.size))
    have HK3 := Lib.hid ((hb3.block _ hN2).trans HK2.out)
    have c0 : w3.cell? ⟨w.heap.size, 0, none⟩ = some (.int .i64 (V : Int)) := cell_of HK3.out rfl
    have c1 : w3.cell? ⟨w.heap.size, 1, none⟩ = some (.slice A n.arcs.length c) := cell_of HK3.out rfl
    have hN3 := lt_heap HK3.out
    have h23 := hb3.size
    obtain ⟨cs, hmk, hmr⟩ := makeRows V (by omega)
    have HMR := Lib.hid hmr
    clear hown hb3 hmr CC HB2 HK2
    go_upto_region 6 with fail
    refine nameC fun W4 hW4 => ?_
    obtain ⟨bg, hbg⟩ : ∃ b, b = w3.heap.size + 1 + 1 := ⟨_, rfl⟩
    obtain ⟨g, hg⟩ : ∃ b, b = w3.heap.size + 1 := ⟨_, rfl⟩
    obtain ⟨bl, hbl⟩ : ∃ b, b = w3.heap.size := ⟨_, rfl⟩
    rw [← hg] at hW4
    rw [← hbg, ← hg, ← hbl]
    obtain ⟨base, hbase⟩ : ∃ b, b = W4.heap.size := ⟨_, rfl⟩
    have hsz4 : W4.heap.size = w3.heap.size + 3 := by rw [hW4.out]; exact alloc3_size _ _ _ _
    have hb4 : Below w3.heap.size w3 W4 := by rw [hW4.out]; exact alloc3_below _ _ _ _
    have HLB4 : Hid (W4.heap[bl]? = some (.cells #[.slice Ac f.length cc] 25 (0, 0))) := Lib.hid (by rw [hW4.out, hbl]; exact alloc3_0 _ _ _ _ _)
    have HGB4 : Hid (W4.heap[bg]? = some (.cells #[.slice (some ⟨g, 0, none⟩) V V] 38 (0, 0))) := Lib.hid (by rw [hW4.out, hbg, heap_alloc_if, if_pos (by simp)])
    have hG4 : W4.rowIs g 25 V (fun _ => .slice none 0 0) := by
      have h := HMR.out (w3.alloc (.cells #[.slice Ac f.length cc] 25))
      have e : (w3.alloc (.cells #[.slice Ac f.length cc] 25)).heap.size = g := by rw [hg]; simp
      rw [e] at h
      rw [hW4.out]
      exact h.of_block (Below.heap_alloc _ _ _ h.lt)
    have hgl : w.heap.size < bl ∧ bl < g ∧ g < bg ∧ bg < base := by omega
    have HA4 : Hid (AdjW W4 base g V (fun _ => .slice none 0 0) (fromT n.arcs 0)) := Lib.hid (AdjW.start hG4 (by omega))
    have HO4 := Lib.hid (own_below HO3.out hb4)
    have HB4 := Lib.hid (HB3.out.trans (hb4.mono HB3.out.size))
    have HK4 := Lib.hid ((hb4.block _ hN3).trans HK3.out)
    have c4 : W4.cell? ⟨w.heap.size, 1, none⟩ = some (.slice A n.arcs.length c) := cell_of HK4.out rfl
    have hW4s : base ≤ W4.heap.size := by omega
    have hOB : ∀ b, (Value.slice Ac f.length cc).ownBlock = some b → w2.heap.size ≤ b ∧ b < bl := fun b hb => by have := own_lt HO3.out b hb; omega
    have HOB := Lib.hid hOB
    clear hW4 hG4 hb4 hsz4 hbase hbl hg hbg HO3 HB3 HK3 HMR hmk c0 c1 hOB h23 hN3
    go_wp2_with fail
    clear c4
    go_loopg [37] n.arcs.length (fun gk q37 wr => ∃ k : Nat, k ≤ n.arcs.length ∧ gk = n.arcs.length - k ∧ q37 = .int .i64 (k : Int) ∧ Hid (KF w.heap.size base g g W4 wr) ∧ base ≤ wr.heap.size ∧ Hid (∃ Y, AdjW wr base g V Y (fromT n.arcs k)))
    case atStart => exact ⟨0, Nat.zero_le _, rfl, rfl, Lib.hid (KF.refl _ _ _ _ _), hW4s, Lib.hid ⟨_, HA4.out⟩⟩
    case round =>
      obtain ⟨k, hk, hgk, rfl, HK, hsz, HAD⟩ := hrel
      clear HA4 hW4s
      by_cases hlt : k < n.arcs.length
      · have hlt' : (k : Int) < (n.arcs.length : Int) := by omega
        have h0 : (0 : Int) ≤ (k : Int) := by omega
        obtain ⟨ba, off, rfl, hba, e0, e1, e2⟩ := HA.out.at_ (HB4.out.trans HK.out.bel) hlt
        obtain ⟨a, b, cp, harc, ha, hb0, hb, hab, hc⟩ := HN.out.arc k hlt
        have HARC := Lib.hid harc
        rw [harc] at e0 e1 e2
        dsimp only at e0 e1 e2
        clear harc
        go_upto_region 9 with fail
        refine nameC fun W5 hW5 => ?_
        obtain ⟨b5, hb5⟩ : ∃ b5, b5 = wr.heap.size := ⟨_, rfl⟩
        have HX : Hid (W5.heap[b5]? = some (.cells #[.int .i64 (a : Int), .int .i64 (b : Int), .int .i64 (cp : Int)] 45 (0, 0))) := Lib.hid (by rw [hW5.out, hb5, heap_alloc_if, if_pos rfl])
        have hBr : Below wr.heap.size wr W5 := by rw [hW5.out]; exact (Below.refl _ _).alloc (Nat.le_refl _) _
        obtain ⟨Y, hY⟩ := HAD.out
        have hR : RoundF w.heap.size base g V b5 W4 W5 #[.int .i64 (a : Int), .int .i64 (b : Int), .int .i64 (cp : Int)] Y (fromT n.arcs k) :=
          ⟨HK.out.trans (KF.ofB (by omega) (hBr.mono hsz)), HX.out, hY.below hBr, fun v hv c hc => by have := (own_lt (hY.own v hv) c hc).2; omega, by omega, ⟨by omega, by omega⟩, Nat.le_trans hsz hBr.size⟩
        have HR5 := Lib.hid hR
        clear hW5 hY HX hR hBr
        rw [← hb5]
        clear hb5 e0 e1 e2
        have ha0 : (0 : Int) ≤ (a : Int) := by omega
        have haI : (a : Int) < (V : Int) := by omega
        have haV : a < V := by omega
        have hs5 : b5 < W5.heap.size := lt_heap HR5.out.box
        have hg5 : g < W5.heap.size := HR5.out.adj.glt
        have hz5 : base ≤ W5.heap.size := HR5.out.sz
        have hown := HR5.out.adj.own a haV
        have hc5 := HR5.out.adj.cell (v := a) haV
        have hf5 := HR5.out.adj.frz a
        have x5 : W5.cell? ⟨b5, 0, none⟩ = some (.int .i64 (a : Int)) := cell_of HR5.out.box rfl
        have g5 : W5.cell? ⟨bg, 0, none⟩ = some (.slice (some ⟨g, 0, none⟩) V V) := cell_of ((HR5.out.kf.blk bg (by omega) (by omega) (by omega)).trans HGB4.out) rfl
        have hbg5 : bg < W5.heap.size := by omega
        obtain ⟨A5, d5, hxa⟩ := own_sl hown
        rw [hxa] at hown hc5
        have HO5 := Lib.hid hown
        have HX5 := Lib.hid hxa
        have hl5 : (fromT n.arcs k a).length < 100000 := by
          have := fromT_len n.arcs k a
          omega
        clear hown hxa
        have hE : updV (fromT n.arcs k) a (fromT n.arcs k a ++ [(k : Int)]) = fromT n.arcs (k + 1) := by
          funext v
          show _ = updV (fromT n.arcs k) (nthA n.arcs k).src.toNat _ v
          rw [HARC.out]; rfl
        have HE := Lib.hid hE
        clear hE
        refine anyZ_begin (z := 12) (S := fun w' => w'.cell? ⟨bg, 0, none⟩ = some (.slice (some ⟨g, 0, none⟩) V V) ∧ w'.cell? ⟨b5, 0, none⟩ = some (.int .i64 (a : Int)) ∧ w'.cell? ⟨g, a, none⟩ = some (.slice A5 (fromT n.arcs k a).length d5)) (by kernel_rfl) ⟨g5, x5, hc5⟩ (fun hHeld => ?_)
        refine AnyZ.take (i := 0) (v := ?_) rfl (by kernel_rfl) (by kernel_rfl) (fun _ _ _ h => h) (by kernel_rfl) (by kernel_rfl) (by kernel_rfl) (Or.inl ⟨by rfl, ?_⟩) hHeld ?_
        rotate_left 1
        focus (intro w hSw; (try dsimp only at hSw); go_simp; (try with_reducible rfl))
        (repeat (first | simp only [Act.put] | simp only [List.setIfInBounds_toArray] | simp only [List.set_cons_zero] | simp only [List.set_cons_succ]))
        refine AnyZ.take (i := 1) (v := ?_) rfl (by kernel_rfl) (by kernel_rfl) (fun _ _ _ h => h) (by kernel_rfl) (by kernel_rfl) (by kernel_rfl) (Or.inl ⟨by rfl, ?_⟩) hHeld ?_
        rotate_left 1
        focus (intro w hSw; (try dsimp only at hSw); go_simp; (try with_reducible rfl))
        (repeat (first | simp only [Act.put] | simp only [List.setIfInBounds_toArray] | simp only [List.set_cons_zero] | simp only [List.set_cons_succ]))
        refine AnyZ.take (i := 2) (v := ?_) rfl (by kernel_rfl) (by kernel_rfl) (fun _ _ _ h => h) (by kernel_rfl) (by kernel_rfl) (by kernel_rfl) (Or.inl ⟨by rfl, ?_⟩) hHeld ?_
        rotate_left 1
        focus (intro w hSw; (try dsimp only at hSw); go_simp; (try with_reducible rfl))
        (repeat (first | simp only [Act.put] | simp only [List.setIfInBounds_toArray] | simp only [List.set_cons_zero] | simp only [List.set_cons_succ]))
        refine AnyZ.take (i := 3) (v := ?_) rfl (by kernel_rfl) (by kernel_rfl) (fun _ _ _ h => h) (by kernel_rfl) (by kernel_rfl) (by kernel_rfl) (Or.inl ⟨by rfl, ?_⟩) hHeld ?_
        rotate_left 1
        focus (intro w hSw; (try dsimp only at hSw); go_simp; (try with_reducible rfl))
        (repeat (first | simp only [Act.put] | simp only [List.setIfInBounds_toArray] | simp only [List.set_cons_zero] | simp only [List.set_cons_succ]))
        refine AnyZ.take (i := 4) (v := ?_) rfl (by kernel_rfl) (by kernel_rfl) (fun _ _ _ h => h) (by kernel_rfl) (by kernel_rfl) (by kernel_rfl) (Or.inl ⟨by rfl, ?_⟩) hHeld ?_
        rotate_left 1
        focus (intro w hSw; (try dsimp only at hSw); go_simp; (try with_reducible rfl))
        (repeat (first | simp only [Act.put] | simp only [List.setIfInBounds_toArray] | simp only [List.set_cons_zero] | simp only [List.set_cons_succ]))
        refine AnyZ.take (i := 5) (v := ?_) rfl (by kernel_rfl) (by kernel_rfl) (fun _ _ _ h => h) (by kernel_rfl) (by kernel_rfl) (by kernel_rfl) (Or.inl ⟨by rfl, ?_⟩) hHeld ?_
        rotate_left 1
        focus (intro w hSw; (try dsimp only at hSw); go_simp; (try with_reducible rfl))
        (repeat (first | simp only [Act.put] | simp only [List.setIfInBounds_toArray] | simp only [List.set_cons_zero] | simp only [List.set_cons_succ]))
        refine AnyZ.take (i := 6) (v := ?_) rfl (by kernel_rfl) (by kernel_rfl) (fun _ _ _ h => h) (by kernel_rfl) (by kernel_rfl) (by kernel_rfl) (Or.inl ⟨by rfl, ?_⟩) hHeld ?_
        rotate_left 1
        focus (intro w hSw; (try dsimp only at hSw); go_simp; (try with_reducible rfl))
        (repeat (first | simp only [Act.put] | simp only [List.setIfInBounds_toArray] | simp only [List.set_cons_zero] | simp only [List.set_cons_succ]))
        refine AnyZ.take (i := 7) (v := ?_) rfl (by kernel_rfl) (by kernel_rfl) (fun _ _ _ h => h) (by kernel_rfl) (by kernel_rfl) (by kernel_rfl) (Or.inl ⟨by rfl, ?_⟩) hHeld ?_
        rotate_left 1
        focus (intro w hSw; (try dsimp only at hSw); go_simp; (try with_reducible rfl))
        (repeat (first | simp only [Act.put] | simp only [List.setIfInBounds_toArray] | simp only [List.set_cons_zero] | simp only [List.set_cons_succ]))
        refine AnyZ.take (i := 8) (v := ?_) rfl (by kernel_rfl) (by kernel_rfl) (fun _ _ _ h => h) (by kernel_rfl) (by kernel_rfl) (by kernel_rfl) (Or.inl ⟨by rfl, ?_⟩) hHeld ?_
        rotate_left 1
        focus (intro w hSw; (try dsimp only at hSw); go_simp; (try with_reducible rfl))
        (repeat (first | simp only [Act.put] | simp only [List.setIfInBounds_toArray] | simp only [List.set_cons_zero] | simp only [List.set_cons_succ]))
        refine AnyZ.one (i := 9) (by kernel_rfl) rfl (fun K hK => ?_)
        go_simp
        have hB6 : Below W5.heap.size W5 (W5.alloc (.cells #[.int .i64 (k : Int)] 3)).drew := Below.drew ((Below.refl _ _).alloc (Nat.le_refl _) _)
        refine hK.out _ _ (fun _ => ⟨(hB6.cell (p := ⟨bg, 0, none⟩) hbg5).trans g5, (hB6.cell (p := ⟨b5, 0, none⟩) hs5).trans x5, (hB6.cell (p := ⟨g, a, none⟩) hg5).trans hc5⟩) (fun _ => ?_)
        clear hK K hHeld
        (repeat (first | simp only [Act.put] | simp only [List.setIfInBounds_toArray] | simp only [List.set_cons_zero] | simp only [List.set_cons_succ]))
        refine AnyZ.one (i := 10) (by kernel_rfl) rfl (fun K hK => ?_)
        refine step_int base (fromT n.arcs k a) (k : Int) (v := .slice A5 (fromT n.arcs k a).length d5) (b := W5.heap.size) (c := 1) ?_ (cell_drew (cell_new1 _ _ _)) hl5 (Nat.le_trans hz5 hB6.size) rfl (.tmp 49) (.tmp 51) rfl rfl rfl ?_
        · (repeat (first | with_reducible exact HO5.out | (with_reducible refine World.ownsRow.drew ?_) | (with_reducible refine World.ownsRow.alloc ?_ _))); done
        intro A7 d7 w7 H7
        obtain ⟨HT7, HX7, HG7, hc7, hf7⟩ := RoundF.push HR5.out (a := a) haV hB6 (bg := bg) ⟨by omega, by omega⟩ HGB4.out (by rw [HX5.out]; exact H7.out)
        rw [HX5.out] at hc7
        refine hK.out _ _ (fun _ => ⟨cell_of HG7.out rfl, cell_of HX7.out rfl, hc7⟩) (fun hHeld => ?_)
        replace hHeld := hHeld (by decide)
        clear hK K
        (repeat (first | simp only [Act.put] | simp only [List.setIfInBounds_toArray] | simp only [List.set_cons_zero] | simp only [List.set_cons_succ]))
        refine AnyZ.take (i := 11) (v := ?_) rfl (by kernel_rfl) (by kernel_rfl) (fun _ _ _ h => h) (by kernel_rfl) (by kernel_rfl) (by kernel_rfl) (Or.inl ⟨by rfl, ?_⟩) hHeld ?_
        rotate_left 1
        focus (intro w hSw; (try dsimp only at hSw); go_simp; (try with_reducible rfl))
        (repeat (first | simp only [Act.put] | simp only [List.setIfInBounds_toArray] | simp only [List.set_cons_zero] | simp only [List.set_cons_succ]))
        refine AnyZ.one (i := 12) (by kernel_rfl) rfl (fun K hK => ?_)
        go_simp
        refine hK.out _ _ (fun h => absurd rfl h) (fun _ => ?_)
        clear hK K
        (repeat (first | simp only [Act.put] | simp only [List.setIfInBounds_toArray] | simp only [List.set_cons_zero] | simp only [List.set_cons_succ]))
        refine AnyZ.done (by kernel_rfl) ?_
        have hE : updV (fromT n.arcs k) a (fromT n.arcs k a ++ [(k : Int)]) = fromT n.arcs (k + 1) := by
          funext v
          show _ = updV (fromT n.arcs k) (nthA n.arcs k).src.toNat _ v
          rw [HARC.out]; rfl
        have hR6 := HT7.out
        rw [hE] at hR6
        have HR6 := Lib.hid hR6
        clear hE hR6 HT7 HX7 HG7 hc7 hf7 H7 hHeld hB6 hs5 hg5 hz5 hc5 hf5 x5 g5 HO5 HX5 hl5 HR5 hbg5
        go_wp2_with fail
        go_roundg (n.arcs.length - (k + 1))
        case measure => omega
        case rel => exact ⟨k + 1, by omega, rfl, by go_num, Lib.hid HR6.out.kf, HR6.out.sz, Lib.hid ⟨_, HR6.out.adj⟩⟩
      · have hnl : ¬ (k : Int) < (n.arcs.length : Int) := by omega
        obtain rfl : k = n.arcs.length := by omega
        obtain ⟨Y, hY⟩ := HAD.out
        have HY := Lib.hid hY
        have HK6 := Lib.hid ((HK.out.blk w.heap.size (by omega) (by omega) (by omega)).trans HK4.out)
        have HLB6 := Lib.hid ((HK.out.blk bl (by omega) (by omega) (by omega)).trans HLB4.out)
        have HGB6 := Lib.hid ((HK.out.blk bg (by omega) (by omega) (by omega)).trans HGB4.out)
        have HO6 := Lib.hid (own_kept HO4.out fun b hb _ => by have := HOB.out b hb; exact HK.out.blk b (by omega) (by omega) (by omega))
        have HB6 := Lib.hid (HB4.out.trans HK.out.bel)
        clear hY HAD HK HLB4 HGB4 HO4 HB4 HK4 hk hlt hnl
        by_cases hv : v0 = 0
        · subst hv
          go_wp2_with fail
          go_loopg [4, 5, 7] 0 (fun _ q4 q5 q7 wx => q4 = .slice none 0 0 ∧ q5 = .slice none 0 0 ∧ q7 = .int .i64 0 ∧ wx = wr)
          case atStart => exact ⟨rfl, rfl, rfl, rfl⟩
          case round =>
            obtain ⟨rfl, rfl, rfl, rfl⟩ := hrel
            go_wp2_with fail
            refine bodyPost_ret (v := .tuple #[.slice none 0 0, .slice none 0 0, .int .i64 0]) (by simp [results, Try.results21, go_sem]) rfl ?_
            exact ⟨HB6.out, .inr ⟨V, [], [], _, _, _, _, w.heap.size, HN.out, HVB.out, rfl, PathsP.start HL0.out, rfl, Nat.zero_le _, Nat.le_refl _, RowsW.nil _ _ _, own_nil _ _ _ _⟩⟩
        · have hm0 : 0 < n.arcs.length := by
            rcases Nat.eq_zero_or_pos n.arcs.length with e | e
            · exfalso
              have := HL0.out.vEq
              rw [e] at this
              exact hv this.symm
            · exact e
          have hown6 := HO6.out
          obtain ⟨lk, rfl, hlk1, cur, hlkc, hlks⟩ : ∃ lk, Ac = some ⟨lk, 0, none⟩ ∧ w2.heap.size ≤ lk ∧ ∃ cur : Array Value, wr.heap[lk]? = some (.cells cur 3 (0, 0)) ∧ ∀ i, i < n.arcs.length → cur[i]? = some (i64v (nthI f i)) := by
            rcases hown6.2 with ⟨-, e⟩ | ⟨r, cap, cur, e, hb, hh, h4, h5, h6, h7⟩
            · have := HFL.out; omega
            · injection e with e1 e2 e3
              refine ⟨r, e1, hb, cur, hh, fun i hi => ?_⟩
              have hfi : i < f.length := by rw [HFL.out]; exact hi
              have h8 := congrArg (fun l => l[i]?) h7
              simp only [Nat.mul_one, List.getElem?_take_of_lt hfi, List.getElem?_map, List.getElem?_eq_getElem hfi] at h8
              rw [nthI_get hfi]
              simpa using h8
          have hlk2 : lk < bl := (HOB.out lk rfl).2
          obtain ⟨w6, hw6⟩ : ∃ W, W = wr := ⟨_, rfl⟩
          obtain ⟨base2, hb2⟩ : ∃ b, b = wr.heap.size := ⟨_, rfl⟩
          have hb2' : base2 ≤ wr.heap.size := by omega
          have hlt2 : bg < base2 := by omega
          have HLR : Hid (∃ cs t, wr.heap[lk]? = some (.cells cs t (0, 0)) ∧ ∀ i, i < n.arcs.length → cs[i]? = some (i64v (nthI f i))) := Lib.hid ⟨cur, _, hlkc, hlks⟩
          have HRW : Hid (RowsW wr (fun b => b ≠ lk ∧ (Value.slice none 0 0).ownBlock ≠ some b) base2 (.slice none 0 0) []) := Lib.hid (RowsW.nil _ _ _)
          have HAM : Hid (wr.ownsRow base2 3 1 (.slice none 0 0) ([] : List Int).length (([] : List Int).map i64v)) := Lib.hid (own_nil _ _ _ _)
          have HCN : Hid (([] : List (List Int)).length + cntP (nthI f) n.arcs.length ≤ n.arcs.length ∨ (v0 = 0 ∧ ([] : List (List Int)).length ≤ n.arcs.length)) := Lib.hid (.inl (by simp; exact cntP_le _ _))
          rw [← hw6] at HY HK6 HLB6 HGB6 HB6
          have HKK : Hid (KF w.heap.size base2 lk lk w6 wr) := Lib.hid (by rw [hw6]; exact KF.refl _ _ _ _ _)
          have HB2E : Hid (base2 = w6.heap.size) := Lib.hid (by rw [hb2, hw6])
          clear hw6 hb2 hown6 hlkc hlks HO6 HOB hsz
          go_wp2_with fail
          go_loopg [4, 5, 7] v0.toNat (fun gk q4 q5 q7 wx => ∃ (ps : List (List Int)) (am : List Int) (L : Nat → Nat → Int) (Wv : Nat → Int) (lf : Nat → Int) (val : Int), gk = val.toNat ∧ q7 = .int .i64 val ∧ Hid (L ps.length = lf ∧ Wv ps.length = val) ∧ Hid (PathsP n V f ps am L Wv) ∧ Hid (LfP n V f lf val) ∧ Hid (RowsW wx (fun b => b ≠ lk ∧ q5.ownBlock ≠ some b) base2 q4 ps) ∧ Hid (wx.ownsRow base2 3 1 q5 am.length (am.map i64v)) ∧ Hid (KF w.heap.size base2 lk lk w6 wx) ∧ Hid (∃ cs t, wx.heap[lk]? = some (.cells cs t (0, 0)) ∧ ∀ i, i < n.arcs.length → cs[i]? = some (i64v (lf i))) ∧ Hid (ps.length + cntP lf n.arcs.length ≤ n.arcs.length ∨ (val = 0 ∧ ps.length ≤ n.arcs.length)) ∧ base2 ≤ wx.heap.size)
          case atStart => exact ⟨[], [], _, _, _, v0, rfl, rfl, Lib.hid ⟨rfl, rfl⟩, Lib.hid (PathsP.start HL0.out), HL0, HRW, HAM, HKK, HLR, HCN, hb2'⟩
          case round =>
            obtain ⟨ps, am, L, Wv, lf, val, rfl, rfl, HLW, HPP, HLf, HRo, HAo, HKo, HLo, HCo, hsz⟩ := hrel
            clear HRW HAM HKK HLR HCN hb2'
            have HBo := Lib.hid (HB6.out.trans HKo.out.bel)
            by_cases hvp : 0 < val
            · have hnw : wr.heap[w.heap.size]? = some (.cells #[.int .i64 (V : Int), .slice A n.arcs.length c] 24 (0, 0)) := (HKo.out.blk w.heap.size (by omega) (by omega) (by omega)).trans HK6.out
              have n0 : wr.cell? ⟨w.heap.size, 0, none⟩ = some (.int .i64 (V : Int)) := cell_of hnw rfl
              have hN := lt_heap hnw
              obtain ⟨cs7, hmk, hmr⟩ := makeBools V (by omega)
              have HMR := Lib.hid hmr
              obtain ⟨A4, d4, rfl⟩ := HRo.out.sl
              have hown := HAo.out
              obtain ⟨A5, d5, rfl⟩ := own_sl hown
              clear hnw hmr hown
              go_upto_region 15 with fail
              refine nameC fun W7 hW7 => ?_
              obtain ⟨bf, hbf⟩ : ∃ b, b = wr.heap.size + 1 + 1 + 1 := ⟨_, rfl⟩
              obtain ⟨bp, hbp⟩ : ∃ b, b = wr.heap.size + 1 + 1 := ⟨_, rfl⟩
              obtain ⟨bm, hbm⟩ : ∃ b, b = wr.heap.size + 1 := ⟨_, rfl⟩
              obtain ⟨bu, hbu⟩ : ∃ b, b = wr.heap.size := ⟨_, rfl⟩
              rw [← hbu] at hW7
              rw [← hbf, ← hbp, ← hbm]
              obtain ⟨B, hBB⟩ : ∃ b, b = W7.heap.size := ⟨_, rfl⟩
              have hs7 : W7.heap.size = wr.heap.size + 4 := by rw [hW7.out]; simp
              have hb7 : Below wr.heap.size wr W7 := by rw [hW7.out]; exact ((alloc3_below _ _ _ _).alloc (by simp; omega) _)
              have hf7 : W7.heap[bf]? = some (.cells #[.nilFunc] 67 (0, 0)) := by rw [hW7.out, hbf, heap_alloc_if, if_pos (by simp)]
              have hp7 : W7.heap[bp]? = some (.cells #[.slice none 0 0] 25 (0, 0)) := by rw [hW7.out, hbp]; exact heap_alloc_keep (by rw [heap_alloc_if, if_pos (by simp)]) _
              have hm7 : W7.heap[bm]? = some (.cells #[.slice (some ⟨bu, 0, none⟩) V V] 51 (0, 0)) := by rw [hW7.out, hbm]; exact heap_alloc_keep (heap_alloc_keep (by rw [heap_alloc_if, if_pos (by simp)]) _) _
              have hu7 : W7.rowIs bu 4 V (fun _ => .bool false) := by
                have h := HMR.out wr
                rw [← hbu] at h
                rw [hW7.out]
                exact h.of_block (heap_alloc_keep (heap_alloc_keep (heap_alloc_keep (h.choose_spec.1) _) _) _ |>.trans h.choose_spec.1.symm)
              have c7 : W7.cell? ⟨bf, 0, none⟩ = some .nilFunc := cell_of hf7 rfl
              have f7 : W7.frozen? ⟨bf, 0, none⟩ = false := frz_at hf7
              have hord : bu < bm ∧ bm < bp ∧ bp < bf ∧ bf < B := by omega
              have hbuw : wr.heap.size ≤ bu ∧ bu ≤ wr.heap.size := by omega
              have HS7 := Lib.hid hs7
              have HBB := Lib.hid hBB
              clear hW7 hmk HMR n0 hbu hbm hbp hbf hBB hs7
              go_upto_region 16 with fail
              refine nameC fun W8 hW8 => ?_
              have hk8 : ∀ k, k ≠ bf → W8.heap[k]? = W7.heap[k]? := fun k hk => by rw [hW8.out, heap_set_if, if_neg hk]
              have hs8 : W8.heap.size = W7.heap.size := by rw [hW8.out]; simp [World.setCell]
              have hs7 := HS7.out
              have hBB := HBB.out
              have hb8 : Below wr.heap.size wr W8 := by rw [hW8.out]; exact hb7.setCell (by show wr.heap.size ≤ bf; omega) _
              have hb6 : KF w.heap.size base2 lk lk w6 W8 := HKo.out.trans (KF.ofB (by omega) (hb8.mono hsz))
              have hF8 : FFW wr.heap.size B W8 n V lf Y w.heap.size bm bg bl bp bf bu g lk cc base := by
                have hYl := fun v hv b hb => own_lt (HY.out.own v hv) b hb
                have hbs := HB2E.out
                refine ⟨⟨.slice A n.arcs.length c, (hb6.blk _ (by omega) (by omega) (by omega)).trans HK6.out, IsSl.below (IsSl.mono HA.out (fun b hb _ => ⟨by omega, by omega, by omega⟩) (by decide)) (HB6.out.trans hb6.bel)⟩, (hk8 bm (by omega)).trans hm7, (hb6.blk _ (by omega) (by omega) (by omega)).trans HGB6.out, ?_, ?_, ?_, ?_, ?_, ?_, ⟨by omega, by omega, by omega, by omega, by omega, by omega⟩⟩
                · rw [← HFL.out]; exact (hb6.blk _ (by omega) (by omega) (by omega)).trans HLB6.out
                · obtain ⟨cs, t, l1, l2⟩ := HLo.out
                  exact ⟨cs, t, (hb8.block lk (by omega)).trans l1, l2⟩
                · rw [hW8.out, heap_set_if, if_pos rfl, hf7]; rfl
                · exact HY.out.keep (hb6.blk g (by omega) (by omega) (by omega)) fun b hb hl => hb6.blk b (by omega) (by omega) (by omega)
                · intro b hb
                  simp at hb
                  omega
                · intro v hv b hb
                  have := hYl v hv b hb
                  omega
              have hD8 : DFW B W8 V bu bp (fun _ => false) [] := by
                refine ⟨hu7.of_block (hk8 bu (by omega)), ⟨_, (hk8 bp (by omega)).trans hp7, own_nil _ _ _ _⟩, by omega⟩
              have HF8 := Lib.hid hF8
              have HD8 := Lib.hid hD8
              have HB8 := Lib.hid hb8
              have HK8 := Lib.hid hb6
              have CF := Lib.hid (fol_any wr.heap.size B n V lf Y w.heap.size bm bg bl bp bf bu g lk cc base HN.out (fun i hi => (HLf.out.rng i hi).1) V W8 (fun _ => false) [] 0 ⟨hF8, hD8, by omega, rfl, rfl, by have := cntF_le (fun _ => false) V; simp; exact this⟩ (cntF_le _ _))
              have c8 : W8.cell? ⟨bf, 0, none⟩ = some (.func (.func 32) #[] #[.pointer (some ⟨w.heap.size, 0, none⟩), .pointer (some ⟨bm, 0, none⟩), .pointer (some ⟨bg, 0, none⟩), .pointer (some ⟨bl, 0, none⟩), .pointer (some ⟨bp, 0, none⟩), .pointer (some ⟨bf, 0, none⟩)]) := cell_of hF8.fb rfl
              clear hF8 hD8 hb8 hb6 hW8 hk8 hs8 c7 f7 hu7 hm7 hp7 hf7 hb7 hs7 hBB HS7 HBB
              go_wp2_with fail
              refine CF.out.mono ?_
              rintro e w9 ⟨met, hk9, hor⟩
              obtain ⟨rfl, p, hsp, hd9⟩ : e = .returned (.bool true) ∧ ∃ p, SP n V lf (fun _ => false) 0 p ∧ DFW B w9 V bu bp met ([] ++ p) := by
                rcases hor with h | ⟨-, hfn, -⟩
                · exact h
                · exact absurd (HLf.out.found HN.out hvp hfn) id
              clear hor
              rw [List.nil_append] at hd9
              obtain ⟨pv, p1, p2⟩ := hd9.pth
              obtain ⟨Ap, dp, rfl⟩ := own_sl p2
              have HF9 := Lib.hid (HF8.out.kf hk9)
              have HB9 := Lib.hid (HB8.out.trans (hk9.bel))
              have HK9 := Lib.hid (HK8.out.trans (KF.ofB (bu := lk) (bp := lk) (by omega) (hk9.bel.mono hsz)))
              have HP1 := Lib.hid p1
              have HP2 := Lib.hid p2
              have HPI := Lib.hid (IsInts.ofOwn p2)
              have HSP := Lib.hid hsp
              have HST := Lib.hid (step_of hsp (show 1 ≤ val by omega))
              have hplen : p.length ≤ 512 := by have h1 := hsp.len HN.out rfl; have h2 := cntF_le (fun _ => false) V; omega
              have HSZ9 := Lib.hid hd9.sz
              have HRo9 := Lib.hid (HRo.out.below HB9.out)
              have HAo9 := Lib.hid (own_below HAo.out HB9.out)
              have hsz9 : base2 ≤ w9.heap.size := Nat.le_trans hsz HB9.out.size
              have hord2 : base2 ≤ B ∧ base2 ≤ bu := by omega
              have p0 : w9.cell? ⟨bp, 0, none⟩ = some (.slice Ap p.length dp) := cell_of p1 rfl
              clear hk9 hsp hd9 p1 p2 CF c8 HF8 HD8 HB8 HK8 HRo HAo HKo HLo HBo HB9 hsz hN hbuw
              go_wp2_with fail
              go_loopg [15, 66] p.length (fun gj q15 q66 wx => ∃ k : Nat, k ≤ p.length ∧ gj = p.length - k ∧ q15 = .int .i64 (mnP lf val p k) ∧ q66 = .int .i64 (k : Int) ∧ wx = w9)
              case atStart => exact ⟨0, Nat.zero_le _, rfl, rfl, rfl, rfl⟩
              case round =>
                obtain ⟨k, hk, hgj, rfl, rfl, rfl⟩ := hrel
                by_cases hkl : k < p.length
                · have hkI : (k : Int) < (p.length : Int) := by omega
                  have hk0 : (0 : Int) ≤ (k : Int) := by omega
                  obtain ⟨ba, oa, rfl, hba, hcz⟩ := HPI.out.at_ (Below.refl _ _) hkl
                  obtain ⟨i, u, hix, hi, -⟩ := HSP.out.src rfl (nthI p k) (by rw [nthI_get hkl]; exact List.getElem_mem hkl)
                  rw [hix] at hcz
                  have l1 : wr.cell? ⟨bl, 0, none⟩ = some (.slice (some ⟨lk, 0, none⟩) n.arcs.length cc) := cell_of HF9.out.lb rfl
                  have lj : wr.cell? ⟨lk, i, none⟩ = some (.int .i64 (lf i)) := by obtain ⟨cs, t, h1, h2⟩ := HF9.out.lr; exact cell_of h1 (h2 i hi)
                  have hiI : (i : Int) < (n.arcs.length : Int) := by omega
                  have hi0 : (0 : Int) ≤ (i : Int) := by omega
                  have HM : Hid (mnP lf val p (k + 1) = min (mnP lf val p k) (lf i)) := Lib.hid (by show min (mnP lf val p k) (lf (nthI p k).toNat) = _; rw [hix, Int.toNat_natCast])
                  obtain ⟨x, hx⟩ : ∃ x, x = lf i := ⟨_, rfl⟩
                  obtain ⟨y, hy⟩ : ∃ y, y = mnP lf val p k := ⟨_, rfl⟩
                  rw [← hx] at lj HM
                  rw [← hy] at HM ⊢
                  clear hix hx hy
                  go_wp2_with fail
                  all_goals
                    go_roundg (p.length - (k + 1))
                    case measure => omega
                    case rel => exact ⟨k + 1, by omega, rfl, by rw [HM.out]; congr 1; omega, by go_num, rfl⟩
                · have hnl : ¬ (k : Int) < (p.length : Int) := by omega
                  obtain rfl : k = p.length := by omega
                  obtain ⟨wz, rfl⟩ : ∃ W, W = wr := ⟨_, rfl⟩
                  obtain ⟨a, ha⟩ : ∃ a, a = mnP lf val p p.length := ⟨_, rfl⟩
                  rw [← ha] at HST ⊢
                  have HLr : Hid (∃ cs t, wz.heap[lk]? = some (.cells cs t (0, 0)) ∧ ∀ i, i < n.arcs.length → cs[i]? = some (i64v (subL lf a (p.take 0) i))) := Lib.hid HF9.out.lr
                  have HBS : Hid (lk < B ∧ bp < B ∧ bl < B ∧ lk ≠ bl ∧ lk ≠ bp ∧ w.heap.size ≤ lk ∧ B ≤ wz.heap.size ∧ lk < base2 ∧ lk ≠ w.heap.size) := Lib.hid ⟨by omega, by omega, by omega, by omega, by omega, by omega, HSZ9.out, by omega, by omega⟩
                  clear ha hk hnl
                  go_wp2_with fail
                  go_loopg [79] p.length (fun gj q79 wx => ∃ k : Nat, k ≤ p.length ∧ gj = p.length - k ∧ q79 = .int .i64 (k : Int) ∧ Hid (KF w.heap.size wz.heap.size lk lk wz wx) ∧ Hid (∃ cs t, wx.heap[lk]? = some (.cells cs t (0, 0)) ∧ ∀ i, i < n.arcs.length → cs[i]? = some (i64v (subL lf a (p.take k) i))))
                  case atStart => exact ⟨0, Nat.zero_le _, rfl, rfl, Lib.hid (KF.refl _ _ _ _ _), HLr⟩
                  case round =>
                    obtain ⟨k, hk, hgj, rfl, HKs, HLs⟩ := hrel
                    clear HLr
                    have HP3 := Lib.hid (own_kept HP2.out fun b hb hl => HKs.out.blk b hl (by have := own_lt HP2.out b hb; have := HBS.out; omega) (by have := own_lt HP2.out b hb; have := HBS.out; omega))
                    by_cases hkl : k < p.length
                    · have hkI : (k : Int) < (p.length : Int) := by omega
                      have hk0 : (0 : Int) ≤ (k : Int) := by omega
                      obtain ⟨ba, oa, rfl, hba, hcz⟩ := (IsInts.ofOwn HP3.out).at_ (Below.refl _ _) hkl
                      obtain ⟨i, u, hix, hi, -, -, hlp⟩ := HSP.out.src rfl (nthI p k) (by rw [nthI_get hkl]; exact List.getElem_mem hkl)
                      have HIX := Lib.hid hix
                      rw [hix] at hcz
                      have hsub := subL_take HSP.out a hkl hix
                      have l1 : wr.cell? ⟨bl, 0, none⟩ = some (.slice (some ⟨lk, 0, none⟩) n.arcs.length cc) := cell_of ((HKs.out.blk bl (by have := HBS.out; omega) (by have := HBS.out; omega) (by have := HBS.out; omega)).trans HF9.out.lb) rfl
                      have lj : wr.cell? ⟨lk, i, none⟩ = some (.int .i64 (subL lf a (p.take k) i)) := by obtain ⟨cs, t, h1, h2⟩ := HLs.out; exact cell_of h1 (h2 i hi)
                      have lz : wr.frozen? ⟨lk, i, none⟩ = false := by obtain ⟨cs, t, h1, h2⟩ := HLs.out; exact frz_at h1
                      have hiI : (i : Int) < (n.arcs.length : Int) := by omega
                      have hi0 : (0 : Int) ≤ (i : Int) := by omega
                      have hxa : a ≤ lf i := by
                        have := HST.out.1.each (nthI p k) (by rw [nthI_get hkl]; exact List.getElem_mem hkl)
                        rwa [hix, Int.toNat_natCast] at this
                      have ha1 : 1 ≤ a := HST.out.1.lo
                      have hx9 : lf i ≤ 1073741824 := by
                        have h1 := (HLf.out.rng i hi).2
                        have h2 := ((valB_parts HVB.out).2.2.1 i hi).2
                        obtain ⟨a1, b1, c1, e1, h3⟩ := HN.out.arc i hi
                        rw [e1] at h2
                        have : (c1 : Int) ≤ 1073741824 := by omega
                        exact Int.le_trans h1 (Int.le_trans h2 this)
                      rw [hsub] at lj
                      obtain ⟨x, hx⟩ : ∃ x, x = lf i := ⟨_, rfl⟩
                      have hwx : IntKind.i64.wrap (x - a) = x - a := IntWalk.i64_in _ (by omega)
                      have HY : Hid (x - a = subL lf a (p.take k) i - a) := Lib.hid (by rw [hsub, hx])
                      rw [← hx] at lj
                      clear hix hx hsub hxa ha1 hx9 hlp
                      go_upto_region 27 with fail
                      refine nameC fun W4 hW4 => ?_
                      have HK4 : Hid (KF w.heap.size wz.heap.size lk lk wz W4) := Lib.hid (by rw [hW4.out]; exact HKs.out.setCell (.inl rfl) (by have := HBS.out; omega) _ _)
                      have HL4 : Hid (∃ cs t, W4.heap[lk]? = some (.cells cs t (0, 0)) ∧ ∀ i, i < n.arcs.length → cs[i]? = some (i64v (subL lf a (p.take (k + 1)) i))) := Lib.hid (subL_cells hkl HIX.out HY.out HLs.out (by rw [hW4.out]))
                      clear hW4 l1 lj lz hwx hcz
                      go_wp2_with fail
                      go_roundg (p.length - (k + 1))
                      case measure => omega
                      case rel => exact ⟨k + 1, by omega, rfl, by go_num, HK4, HL4⟩
                    · have hnl : ¬ (k : Int) < (p.length : Int) := by omega
                      obtain rfl : k = p.length := by omega
                      obtain ⟨w10, rfl⟩ : ∃ W, W = wr := ⟨_, rfl⟩
                      have HL9 : Hid (∃ cs t, w10.heap[lk]? = some (.cells cs t (0, 0)) ∧ ∀ i, i < n.arcs.length → cs[i]? = some (i64v (subL lf a p i))) := Lib.hid (by have := HLs.out; rwa [List.take_length] at this)
                      have hz10 : wz.heap.size ≤ w10.heap.size := HKs.out.bel.size
                      have p0' : w10.cell? ⟨bp, 0, none⟩ = some (.slice Ap p.length dp) := cell_of ((HKs.out.blk bp (by have := HBS.out; omega) (by have := HBS.out; omega) (by have := HBS.out; omega)).trans HP1.out) rfl
                      have CC := Lib.hid (clone_any w10 _ _ p (IsInts.ofOwn HP3.out) (by omega))
                      have hv42 : val ≤ 4398046511104 := by
                        have h1 := (netB_le (n := n) (g := lf) (v := 0) (k := n.arcs.length) fun j hj => ⟨(HLf.out.rng j hj).1, Int.le_trans (HLf.out.rng j hj).2 (by
                          have h2 := ((valB_parts HVB.out).2.2.1 j hj).2
                          obtain ⟨a1, b1, c1, e1, h3⟩ := HN.out.arc j hj
                          rw [e1] at h2
                          have : (c1 : Int) ≤ 1073741824 := by omega
                          exact Int.le_trans h2 this)⟩).2
                        rw [HLf.out.vEq] at h1
                        omega
                      have hs1 := HST.out.1.lo
                      have hs2 := HST.out.1.hi
                      have hwv : IntKind.i64.wrap (val - a) = val - a := IntWalk.i64_in _ (by omega)
                      have hpl : ps.length ≤ 4096 := by rcases HCo.out with h | h <;> omega
                      have hal : am.length < 100000 := by rw [HPP.out.len]; omega
                      have HRx := Lib.hid (HRo9.out.kp (w' := w10) (fun k hk hX => HKs.out.blk k hk hX.1 hX.1) (fun b hb hl => by have := (HRo9.out.lt b hb).1; have := HBS.out; exact HKs.out.blk b hl (by omega) (by omega)))
                      have HAx := Lib.hid (own_kept (w' := w10) HAo9.out fun b hb hl => by have := (own_lt HAo9.out b hb).1; have := HBS.out; exact HKs.out.blk b hl (by omega) (by omega))
                      have HKx := Lib.hid (HK9.out.trans (HKs.out.less (B' := base2) hsz9))
                      have hbx : base2 ≤ w10.heap.size := Nat.le_trans hsz9 hz10
                      have HLKX : Hid (lk < base2 ∧ w.heap.size ≤ base2) := Lib.hid (by have := HBS.out; omega)
                      clear HKs HLs hz10 HRo9 HAo9 HK9 hsz9 hgj hk hkl hnl HP3 HP1 HP2 HPI HF9 HBS HSZ9 hs1 hs2
                      go_wp2_with fail
                      refine CC.out.mono ?_
                      rintro e w11 ⟨Ac, dc, rfl, hownc, hb11⟩
                      have hzz := hb11.size
                      have HTI : Hid (TInts w11 (fun b => b ≠ lk ∧ (Value.slice A5 am.length d5).ownBlock ≠ some b) (.slice Ac p.length dc) p) := Lib.hid (TInts.ofOwn hownc fun b hb => ⟨by have := HLKX.out; omega, fun e => by have := (own_lt HAx.out b e).2; omega⟩)
                      have HR11 := Lib.hid (HRx.out.below hb11)
                      have HA11 := Lib.hid (own_below HAx.out hb11)
                      have HB11 := Lib.hid (hb11.mono hbx)
                      have hb11' : base2 ≤ w11.heap.size := Nat.le_trans hbx hzz
                      clear hownc hb11 CC p0' hzz
                      go_wp2_with (first
                        | (refine wpList_rows (fun b => b ≠ lk ∧ (Value.slice A5 am.length d5).ownBlock ≠ some b) base2 base2 (l := ps) (m := [p]) (HR11.out.below ((Below.refl _ _).alloc (Nat.le_refl _) _)) (RowsW.one hb11' HTI.out) (by simp; omega) (Nat.le_trans hb11' (by simp)) rfl (.tmp 91) (.tmp 94) rfl rfl rfl ?_
                           intro A6 d6 w12 H12
                           have HA12 : Hid (w12.ownsRow base2 3 1 (.slice A5 am.length d5) am.length (am.map i64v)) := Lib.hid (own_kept (own_below HA11.out ((Below.refl _ _).alloc (Nat.le_refl _) (.cells #[.slice Ac p.length dc] 25))) fun b hb hl => H12.out.2.2 b hl fun e => HR11.out.ne HA11.out b hb e)
                           have HB12 : Hid (Below base2 w10 w12) := Lib.hid (HB11.out.trans (((Below.refl _ _).alloc (Nat.le_refl _) (.cells #[.slice Ac p.length dc] 25)).mono hb11' |>.trans H12.out.2.1))
                           have hs12 : base2 ≤ w12.heap.size := Nat.le_trans hbx HB12.out.size)
                        | (refine wpList_int2 rfl (.tmp 96) (.tmp 98) rfl base2 am a rfl (own_below HA12.out ((Below.refl _ _).alloc (Nat.le_refl _) _)) rfl (cell_new1 _ _ _) hal (Nat.le_trans hs12 (by simp)) ?_
                           intro A7 d7 w13 H13
                           have HB13 : Hid (Below base2 w10 w13) := Lib.hid (HB12.out.trans (((Below.refl _ _).alloc hs12 (.cells #[.int .i64 a] 3)) |>.trans H13.out.2.1))
                           have HR13 : Hid (RowsW w13 (fun b => b ≠ lk ∧ (Value.slice A7 (am ++ [a]).length d7).ownBlock ≠ some b) base2 (.slice A6 (ps ++ [p]).length d6) (ps ++ [p])) := Lib.hid (grow_both (RowsW.below H12.out.1 ((Below.refl _ _).alloc (Nat.le_refl _) (.cells #[.int .i64 a] 3))) (own_below HA12.out ((Below.refl _ _).alloc (Nat.le_refl _) (.cells #[.int .i64 a] 3))) H13.out.2.2.1 H13.out.2.2.2)))
                      go_roundg ((val - a).toNat)
                      case measure => have := HST.out.1.lo; have := HST.out.1.hi; omega
                      case rel =>
                        have e4 : (ps ++ [p]).length = ps.length + 1 := by simp
                        have e5 : (am ++ [a]).length = am.length + 1 := by simp
                        refine ⟨ps ++ [p], am ++ [a], updV L (ps.length + 1) (subL (L ps.length) a p), updV Wv (ps.length + 1) (Wv ps.length - a), subL lf a p, val - a, rfl, ?_, Lib.hid ?_, Lib.hid (HPP.out.snoc HN.out ?_), Lib.hid (HST.out.1.left HLf.out HN.out), Lib.hid (by rw [← e4, ← e5]; exact HR13.out), Lib.hid (by rw [← e5]; exact H13.out.1), Lib.hid (HKx.out.trans (KF.ofB HLKX.out.2 HB13.out)), Lib.hid ?_, Lib.hid ?_, Nat.le_trans hbx HB13.out.size⟩
                        · go_num
                        · rw [List.length_append, ← HLW.out.1, ← HLW.out.2]
                          exact ⟨updV_same _ _ _, updV_same _ _ _⟩
                        · rw [HLW.out.1, HLW.out.2]; exact HST.out.1
                        · obtain ⟨cs, t, l1, l2⟩ := HL9.out
                          exact ⟨cs, t, (HB13.out.block lk HLKX.out.1).trans l1, l2⟩
                        · have h1 := HST.out.1.cnt HLf.out HN.out HST.out.2
                          have h2 := HCo.out
                          rw [List.length_append]
                          have h3 : [p].length = 1 := rfl
                          omega
            · have hvz : val = 0 := by have := HLf.out.pos; omega
              subst hvz
              have hrow := HRo.out.sl
              have hown := HAo.out
              obtain ⟨A4, d4, rfl⟩ := hrow
              obtain ⟨A5, d5, rfl⟩ := own_sl hown
              clear hown
              go_wp2_with fail
              refine bodyPost_ret (v := .tuple #[.slice A4 ps.length d4, .slice A5 am.length d5, .int .i64 0]) (by simp [results, Try.results21, go_sem]) rfl ?_
              exact ⟨HBo.out, .inr ⟨V, ps, am, L, Wv, _, _, base2, HN.out, HVB.out, rfl, HPP.out, HLW.out.2, by rcases HCo.out with h | h <;> omega, by omega, HRo.out.mono fun _ _ _ => trivial, HAo.out⟩⟩
end Go.Proofs.Ytikddknhcfhnbaa
