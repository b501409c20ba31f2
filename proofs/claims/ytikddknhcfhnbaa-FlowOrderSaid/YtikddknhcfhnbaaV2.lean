/- Value of the reference. -/
import Derived.Test.YtikddknhcfhnbaaV1
import Derived.Test.YtikddknhcfhnbaaA3
import Derived.StillTailTactics
namespace Go.Proofs.Ytikddknhcfhnbaa
open Go.RowKit Go.Deep
set_option maxRecDepth 20000 in
set_option maxHeartbeats 4000000 in
theorem rvalue_any (w : World) (M1 M2 : Nat → Prop) (v1 v2 : Value) (n : NetD) (f : List Int) (h1 : IsNet w M1 v1 n) (h2 : IsInts w M2 v2 f) : Calls Try.prog 13 #[v1, v2] w (PairE w (valF n f)) := by
  have CC := fun W (hb : Below w.heap.size w W) => Lib.hid (rcheck_any W M1 v1 n (h1.below hb))
  have HS := Lib.hid h2
  obtain ⟨va, rfl, hva⟩ := id h1
  have HA := Lib.hid hva
  obtain ⟨A, c, rfl, -⟩ := id hva
  obtain ⟨A2, c2, rfl, -⟩ := id h2
  clear h1 h2 hva
  have cc : ∀ W2, Below w.heap.size w W2 → W2.heap[w.heap.size]? = some (.cells #[.int .i64 n.vs, .slice A n.arcs.length c] 24 (0, 0)) → True := fun _ _ _ => trivial
  clear cc
  cases hch : chkN n
  · have HZ := Lib.hid (valF_no (valB_no1 (f := f) hch))
    rw [chkF_no hch] at CC
    clear hch
    go_enter Try.func13, Try.ntmps13
    go_wp2_with fail
    refine nameW fun W1 hW1 => ?_
    have hB1 : Below w.heap.size w W1 := by rw [hW1.out]; exact (Below.refl _ _).alloc (Nat.le_refl _) _
    clear hW1
    refine (CC W1 hB1).out.mono ?_
    rintro e w2 ⟨rfl, hb2⟩
    have HB2 := Lib.hid (hB1.trans (hb2.mono hB1.size))
    clear hb2 hB1 CC
    go_wp2_with fail
    go_ret2
    exact ⟨by rw [HZ.out]; rfl, HB2.out⟩
  obtain ⟨V, hn⟩ := nok_of hch
  rw [chkF_yes hch] at CC
  have HN := Lib.hid hn
  have HCH := Lib.hid hch
  have hVs := hn.vs
  have hV2 := hn.lo
  have hV5 := hn.hi
  have hlen := hn.len
  rw [hVs] at CC ⊢
  clear hch hn
  go_enter Try.func13, Try.ntmps13
  go_wp2_with fail
  refine nameW fun W1 hW1 => ?_
  have hB1 : Below w.heap.size w W1 := by rw [hW1.out]; exact (Below.refl _ _).alloc (Nat.le_refl _) _
  have hk1 : W1.heap[w.heap.size]? = some (.cells #[.int .i64 (V : Int), .slice A n.arcs.length c] 24 (0, 0)) := by rw [hW1.out, heap_alloc_if, if_pos rfl]
  clear hW1
  refine (CC W1 hB1).out.mono ?_
  rintro e w2 ⟨rfl, hb2⟩
  have hk2 := (hb2.block _ (lt_heap hk1)).trans hk1
  have HB2 := Lib.hid (hB1.trans (hb2.mono hB1.size))
  have HK2 := Lib.hid hk2
  have c0 : w2.cell? ⟨w.heap.size, 0, none⟩ = some (.int .i64 (V : Int)) := cell_of hk2 rfl
  have c1 : w2.cell? ⟨w.heap.size, 1, none⟩ = some (.slice A n.arcs.length c) := cell_of hk2 rfl
  have hN2 := lt_heap hk2
  clear hb2 hk1 hk2 hB1 CC
  by_cases hfl : f.length = n.arcs.length
  · have hfI : (f.length : Int) = (n.arcs.length : Int) := by omega
    have hmk := fun W => makeNils V (by omega) W
    go_wp2_with fail
    clear hmk
    refine nameC fun W3 hW3 => ?_
    have hb3 : Below w2.heap.size w2 W3 := by rw [hW3.out]; exact (Below.refl _ _).alloc (Nat.le_refl _) _
    have HB3 := Lib.hid (HB2.out.trans (hb3.mono HB2.out.size))
    have HK3 := Lib.hid ((hb3.block _ (lt_heap HK2.out)).trans HK2.out)
    obtain ⟨bb, hbb⟩ : ∃ bb, bb = w2.heap.size := ⟨_, rfl⟩
    have HR3 : Hid (W3.rowIs bb 3 V (fun v => .int .i64 (netF n f (v : Int) 0))) := Lib.hid ⟨(nils V).toArray, by rw [hW3.out, hbb, heap_alloc_if, if_pos rfl], by simp [nils], fun i hi => by simp [nils, hi, i64v, netF]⟩
    rw [← hbb] at hN2 ⊢
    clear hW3 hb3 hbb HB2 HK2 c0 c1
    go_loopg [7] n.arcs.length (fun gk q7 wr => ∃ k : Nat, k ≤ n.arcs.length ∧ gk = n.arcs.length - k ∧ q7 = .int .i64 (k : Int) ∧ Hid (Below w.heap.size w wr) ∧ Hid (wr.heap[w.heap.size]? = some (.cells #[.int .i64 (V : Int), .slice A n.arcs.length c] 24 (0, 0))) ∧ Hid (wr.rowIs bb 3 V (fun v => .int .i64 (netF n f (v : Int) k))) ∧ Hid (okTo n f k))
    case atStart => exact ⟨0, Nat.zero_le _, rfl, rfl, HB3, HK3, HR3, Lib.hid fun j hj => absurd hj (by omega)⟩
    case round =>
      obtain ⟨k, hk, hgk, rfl, HB, HK, HR, HO⟩ := hrel
      clear HB3 HK3 HR3
      by_cases hkl : k < n.arcs.length
      · have hkI : (k : Int) < (n.arcs.length : Int) := by omega
        have hk0 : (0 : Int) ≤ (k : Int) := by omega
        obtain ⟨ba, off, rfl, hba, e0, e1, e2⟩ := HA.out.at_ HB.out hkl
        obtain ⟨bf, of, rfl, hbf, ef⟩ := HS.out.at_ HB.out (show k < f.length by omega)
        obtain ⟨a, b, cp, harc, ha, hb0, hb, hab, hcp⟩ := HN.out.arc k hkl
        have HARC := Lib.hid harc
        rw [harc] at e0 e1 e2
        dsimp only at e0 e1 e2
        have hkf : (k : Int) < (f.length : Int) := by omega
        obtain ⟨x, hx⟩ : ∃ x, x = nthI f k := ⟨_, rfl⟩
        rw [← hx] at ef
        have HXF := Lib.hid hx
        have k1 : wr.cell? ⟨w.heap.size, 1, none⟩ = some (.slice (some ⟨ba, off, none⟩) n.arcs.length c) := cell_of HK.out rfl
        clear harc hx
        by_cases hneg : x < 0
        · have HZ := Lib.hid (valF_no (valB_no3 hkl (okF_no (f := f) (n := n) (by rw [← HXF.out]; omega))))
          go_upto_region 7 with fail
          go_quiet (fail)
          go_wp2_with fail
          go_ret2
          exact ⟨by rw [HZ.out]; rfl, below_drewN HB.out _⟩
        · have hdn : decide (x < 0) = false := decide_eq_false hneg
          by_cases hov : (cp : Int) < x
          · have HZ := Lib.hid (valF_no (valB_no3 hkl (okF_no (f := f) (n := n) (by rw [← HXF.out, HARC.out]; dsimp only; omega))))
            go_upto_region 7 with fail
            go_quiet (fail)
            go_wp2_with fail
            go_ret2
            exact ⟨by rw [HZ.out]; rfl, below_drewN HB.out _⟩
          · have hdo : decide ((cp : Int) < x) = false := decide_eq_false hov
            go_upto_region 7 with fail
            go_quiet (fail)
            go_upto_region 9 with fail
            refine nameC fun W5 hW5 => ?_
            have HB5 : Hid (Below w.heap.size w W5) := Lib.hid (by rw [hW5.out]; exact below_drewN HB.out _)
            have HK5 : Hid (W5.heap[w.heap.size]? = some (.cells #[.int .i64 (V : Int), .slice (some ⟨ba, off, none⟩) n.arcs.length c] 24 (0, 0))) := Lib.hid (by rw [hW5.out]; exact HK.out)
            have HR5 : Hid (W5.rowIs bb 3 V (fun v => .int .i64 (netF n f (v : Int) k))) := Lib.hid (by rw [hW5.out]; exact HR.out)
            have f5 : W5.cell? ⟨bf, of + k, none⟩ = some (.int .i64 x) := by rw [hW5.out]; exact ef
            have y0 : W5.cell? ⟨ba, off + k * 3, none⟩ = some (.int .i64 (a : Int)) := by rw [hW5.out]; exact e0
            have y1 : W5.cell? ⟨ba, off + k * 3 + 1, none⟩ = some (.int .i64 (b : Int)) := by rw [hW5.out]; exact e1
            have z1 : W5.cell? ⟨w.heap.size, 1, none⟩ = some (.slice (some ⟨ba, off, none⟩) n.arcs.length c) := by rw [hW5.out]; exact k1
            have hbbw : w.heap.size < bb := hN2
            have hfb : bf ≠ bb := by omega
            have hbab : ba ≠ bb := by omega
            have hwbb : w.heap.size ≠ bb := by omega
            have hrg := netF_le (n := n) (v := (a : Int)) (okTo_rng HN.out HO.out hk)
            have hrgb := netF_le (n := n) (v := (b : Int)) (okTo_rng HN.out HO.out hk)
            have ta := HR5.out.cell (i := a) (by omega)
            have tb := HR5.out.cell (i := b) (by omega)
            have fa := HR5.out.frozen a
            have hbl5 := HR5.out.lt
            obtain ⟨na, hna⟩ : ∃ y, y = netF n f (a : Int) k := ⟨_, rfl⟩
            obtain ⟨nb, hnb⟩ : ∃ y, y = netF n f (b : Int) k := ⟨_, rfl⟩
            rw [← hna] at ta hrg
            rw [← hnb] at tb hrgb
            have hwa : IntKind.i64.wrap (na + x) = na + x := IntWalk.i64_in _ (by omega)
            have hwb : IntKind.i64.wrap (nb - x) = nb - x := IntWalk.i64_in _ (by omega)
            have haI : (a : Int) < (V : Int) := by omega
            have hbI : (b : Int) < (V : Int) := by omega
            have ha0 : (0 : Int) ≤ (a : Int) := by omega
            have hb00 : (0 : Int) ≤ (b : Int) := by omega
            have HNA := Lib.hid hna
            have HNB := Lib.hid hnb
            have hba' : ¬ b = a := fun e => hab e.symm
            clear hW5 hna hnb hrg hrgb k1 e0 e1 e2 ef tb hwb
            go_still_tail 22, (by kernel_rfl)
            change wpList _ _ _ _ _ W5.drew
            go_wp2_with fail
            have hwb : IntKind.i64.wrap (nb - x) = nb - x := IntWalk.i64_in _ (by have hrgb := netF_le (n := n) (v := (b : Int)) (okTo_rng HN.out HO.out hk); rw [← HNB.out] at hrgb; omega)
            go_upto_region 10 with fail
            refine nameC fun W6 hW6 => ?_
            have hR6 := (HR5.out.set a (.int .i64 (na + x))).drew
            rw [← hW6.out] at hR6
            have hl6 : ∀ k, k ≠ bb → W6.heap[k]? = W5.heap[k]? := fun k hk => by
              rw [hW6.out]
              show (W5.setCell ⟨bb, a, none⟩ (.int .i64 (na + x))).heap[k]? = _
              rw [heap_set_if, if_neg hk]
            have hB6 : Below w.heap.size w W6 := by rw [hW6.out]; exact (HB5.out.setCell (by show w.heap.size ≤ bb; omega) _).drew
            have g1 : W6.cell? ⟨ba, off + k * 3 + 1, none⟩ = some (.int .i64 (b : Int)) := (World.cell?_of_block (a := ⟨ba, off + k * 3 + 1, none⟩) (hl6 ba hbab)).trans y1
            have g2 : W6.cell? ⟨w.heap.size, 1, none⟩ = some (.slice (some ⟨ba, off, none⟩) n.arcs.length c) := (World.cell?_of_block (a := ⟨w.heap.size, 1, none⟩) (hl6 _ hwbb)).trans z1
            have gf : W6.cell? ⟨bf, of + k, none⟩ = some (.int .i64 x) := (World.cell?_of_block (a := ⟨bf, of + k, none⟩) (hl6 bf hfb)).trans f5
            have hK6 := (hl6 w.heap.size (by omega)).trans HK5.out
            have gb : W6.cell? ⟨bb, b, none⟩ = some (.int .i64 nb) := by
              have := hR6.cell (i := b) (by omega)
              rw [if_neg hba', ← HNB.out] at this
              exact this
            have gfr := hR6.frozen b
            have HR6 := Lib.hid hR6
            have HB6 := Lib.hid hB6
            have HK6 := Lib.hid hK6
            have hbl6 := hR6.lt
            clear hW6 hR6 hl6 hB6 hK6 f5 y0 y1 z1 ta fa HB5 HK5 hwa hbl5
            go_still_tail 22, (by kernel_rfl)
            change wpList _ _ _ _ _ W6.drew
            go_wp2_with fail
            have HB7 : Hid (Below w.heap.size w ((W6.setCell ⟨bb, b, none⟩ (.int .i64 (nb - x))).drew)) := Lib.hid ((HB6.out.setCell (by show w.heap.size ≤ bb; omega) _).drew)
            have HK7 : Hid ((W6.setCell ⟨bb, b, none⟩ (.int .i64 (nb - x))).drew.heap[w.heap.size]? = some (.cells #[.int .i64 (V : Int), .slice (some ⟨ba, off, none⟩) n.arcs.length c] 24 (0, 0))) := Lib.hid (by
              show (W6.setCell ⟨bb, b, none⟩ (.int .i64 (nb - x))).heap[w.heap.size]? = _
              rw [heap_set_if, if_neg (by omega)]; exact HK6.out)
            have HR7 : Hid ((W6.setCell ⟨bb, b, none⟩ (.int .i64 (nb - x))).drew.rowIs bb 3 V (fun v => .int .i64 (netF n f (v : Int) (k + 1)))) := Lib.hid ((HR6.out.set b (.int .i64 (nb - x))).drew.congr fun v _ => by
              rw [net_step HARC.out hab v, ← HXF.out]
              by_cases q1 : v = b
              · subst q1; rw [if_pos rfl, if_pos rfl, HNB.out]
              · rw [if_neg q1, if_neg q1]
                by_cases q2 : v = a
                · subst q2; rw [if_pos rfl, if_pos rfl, HNA.out]
                · rw [if_neg q2, if_neg q2])
            have HO7 := Lib.hid (okTo_succ HO.out (okF_yes (n := n) (f := f) (k := k) (by rw [← HXF.out, HARC.out]; dsimp only; omega)))
            generalize (W6.setCell ⟨bb, b, none⟩ (.int .i64 (nb - x))).drew = W7 at HB7 HK7 HR7 ⊢
            clear g1 g2 gf gb gfr
            go_wp2_with fail
            go_roundg (n.arcs.length - (k + 1))
            case measure => omega
            case rel => exact ⟨k + 1, by omega, rfl, by go_num, HB7, HK7, HR7, HO7⟩
      · have hnl : ¬ (k : Int) < (n.arcs.length : Int) := by omega
        obtain rfl : k = n.arcs.length := by omega
        have k0 : wr.cell? ⟨w.heap.size, 0, none⟩ = some (.int .i64 (V : Int)) := cell_of HK.out rfl
        have hwV : IntKind.i64.wrap ((V : Int) - 1) = (V : Int) - 1 := IntWalk.i64_in _ (by omega)
        go_wp2_with fail
        go_loopg [8] (V - 1 - 1) (fun gj q8 wx => ∃ q : Nat, q ≤ V - 1 ∧ 1 ≤ q ∧ gj = V - 1 - q ∧ q8 = .int .i64 (q : Int) ∧ wx = wr ∧ Hid (∀ v : Nat, 1 ≤ v → v < q → okB n f v = true))
        case atStart => exact ⟨1, by omega, Nat.le_refl _, rfl, rfl, rfl, Lib.hid fun v h1 h2 => absurd h2 (by omega)⟩
        case round =>
          obtain ⟨q, hq, hq1, hgq, rfl, rfl, HOB⟩ := hrel
          by_cases hql : q < V - 1
          · have hqI2 : (q : Int) < (V : Int) - 1 := by omega
            have hqI3 : (q : Int) < (V : Int) := by omega
            have hq0 : (0 : Int) ≤ (q : Int) := by omega
            have cq := HR.out.cell (i := q) (by omega)
            obtain ⟨y, hy⟩ : ∃ y, y = netF n f (q : Int) n.arcs.length := ⟨_, rfl⟩
            rw [← hy] at cq
            have HY := Lib.hid hy
            clear hy
            by_cases hy0 : y = 0
            · subst hy0
              go_wp2_with fail
              go_roundg (V - 1 - (q + 1))
              case measure => omega
              case rel =>
                refine ⟨q + 1, by omega, by omega, rfl, by go_num, rfl, Lib.hid fun v h1 h2 => ?_⟩
                rcases Nat.lt_or_ge v q with a | a
                · exact HOB.out v h1 a
                · obtain rfl : v = q := by omega
                  unfold okB
                  rw [decide_eq_true_eq]
                  exact HY.out.symm
            · have HZ := Lib.hid (valF_no (valB_no4 (n := n) (f := f) (v := q) (by omega) (by rw [hVs]; omega) (by unfold okB; rw [decide_eq_false_iff_not, ← HY.out]; exact hy0)))
              have hyd : (y != 0) = true := bne_iff_ne.2 hy0
              go_wp2_with fail
              go_ret2
              exact ⟨by rw [HZ.out]; rfl, HB.out⟩
          · have hqn2 : ¬ (q : Int) < (V : Int) - 1 := by omega
            have cz := HR.out.cell (i := 0) (by omega)
            have HZ := Lib.hid (valF_yes (valB_yes HCH.out hfl (fun j hj => HO.out j hj) (fun v h1 h2 => HOB.out v h1 (by rw [hVs] at h2; omega))))
            go_wp2_with fail
            go_ret2
            exact ⟨by rw [HZ.out]; rfl, HB.out⟩
  · have HZ := Lib.hid (valF_no (valB_no2 (n := n) hfl))
    have hfI : ¬ (f.length : Int) = (n.arcs.length : Int) := by omega
    go_wp2_with fail
    go_ret2
    exact ⟨by rw [HZ.out]; rfl, HB2.out⟩
end Go.Proofs.Ytikddknhcfhnbaa
