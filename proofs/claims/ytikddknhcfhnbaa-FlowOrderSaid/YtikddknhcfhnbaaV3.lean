/- Capacity of package flow. -/
import Derived.Test.YtikddknhcfhnbaaV1
import Derived.Test.YtikddknhcfhnbaaA6
namespace Go.Proofs.Ytikddknhcfhnbaa
open Go.RowKit Go.Deep
theorem sideB_no {n : NetD} {s : List Int} {k : Nat} (hk : k < s.length) (h : okS n s k = false) : sideB n s = false := by
  unfold sideB
  have : (List.range s.length).all (okS n s) = false := by
    rw [← Bool.not_eq_true, List.all_eq_true]
    intro ha
    rw [ha k (List.mem_range.2 hk)] at h
    cases h
  rw [this, Bool.false_and]
/-- the first k places hold v -/
def inS (s : List Int) (k v : Nat) : Bool := (s.take k).contains (v : Int)
theorem inS_zero (s : List Int) (v : Nat) : inS s 0 v = false := by simp [inS]
theorem inS_succ {s : List Int} {k x : Nat} (hk : k < s.length) (h : nthI s k = (x : Int)) (v : Nat) : inS s (k + 1) v = if v = x then true else inS s k v := by
  unfold inS
  rw [List.take_succ_eq_append_getElem hk, List.contains_eq_mem, List.contains_eq_mem, ← nthI_get hk, h]
  by_cases e : v = x
  · subst e; simp
  · rw [if_neg e]
    have : ¬ ((v : Int) = (x : Int)) := by omega
    simp [this]
theorem inS_all (s : List Int) (v : Nat) : inS s s.length v = s.contains (v : Int) := by unfold inS; rw [List.take_length]
def sTo (n : NetD) (s : List Int) (k : Nat) : Prop := ∀ j, j < k → okS n s j = true
theorem sTo_succ {n : NetD} {s : List Int} {k : Nat} (h : sTo n s k) (hk : okS n s k = true) : sTo n s (k + 1) := fun j hj => by
  rcases Nat.lt_or_ge j k with a | a
  · exact h j a
  · rw [show j = k by omega]; exact hk
theorem sideB_with {n : NetD} {s : List Int} (h : sTo n s s.length) : sideB n s = s.contains 0 := by
  unfold sideB
  have : (List.range s.length).all (okS n s) = true := by
    rw [List.all_eq_true]
    intro i hi
    exact h i (List.mem_range.1 hi)
  rw [this, Bool.true_and]
theorem okS_no {n : NetD} {s : List Int} {k : Nat} (h : ¬ (0 ≤ nthI s k ∧ nthI s k < n.vs - 1 ∧ (k = 0 ∨ nthI s (k - 1) < nthI s k))) : okS n s k = false := by
  rw [← Bool.not_eq_true]
  intro hh
  unfold okS at hh
  simp only [Bool.and_eq_true, Bool.or_eq_true, decide_eq_true_eq] at hh
  exact h hh
theorem okS_yes {n : NetD} {s : List Int} {k : Nat} (h : 0 ≤ nthI s k ∧ nthI s k < n.vs - 1 ∧ (k = 0 ∨ nthI s (k - 1) < nthI s k)) : okS n s k = true := by
  unfold okS
  simp only [Bool.and_eq_true, Bool.or_eq_true, decide_eq_true_eq]
  exact h
theorem makeBools (n : Nat) (hn : n ≤ 4096) : ∃ cs, (∀ w, (Instr.makeSlice 51 (.int .i64 n) (.int .i64 n)).run Try.prog w = .ok (.slice (some ⟨w.heap.size, 0, none⟩) n n) (w.alloc (.cells cs 4))) ∧ ∀ w : World, (w.alloc (.cells cs 4)).rowIs w.heap.size 4 n (fun _ => .bool false) :=
  ⟨madeCells #[.bool false] n, fun w => run_make_row' (P := Try.prog) 51 4 (.bool false) 1 Try.underlying51 (by kernel_rfl) rfl .i64 .i64 n (by omega) (by omega) w, fun w => World.rowIs_made w (.bool false) n 4⟩
set_option maxRecDepth 20000 in
set_option maxHeartbeats 4000000 in
theorem cap_any (w : World) (M1 M2 : Nat → Prop) (v1 v2 : Value) (n : NetD) (s : List Int) (h1 : IsNet w M1 v1 n) (h2 : IsInts w M2 v2 s) (hs4 : s.length ≤ 65536) : Calls Try.prog 14 #[v1, v2] w (PairE w (capF n s)) := by
  have CC := fun W (hb : Below w.heap.size w W) => Lib.hid (fcheck_any W M1 v1 n (h1.below hb))
  have HS := Lib.hid h2
  obtain ⟨va, rfl, hva⟩ := id h1
  have HA := Lib.hid hva
  obtain ⟨A, c, rfl, -⟩ := id hva
  obtain ⟨A2, c2, rfl, -⟩ := id h2
  clear h1 h2 hva
  cases hch : chkN n
  · have HZ := Lib.hid (show capF n s = (0, 270) by unfold capF; rw [hch]; rfl)
    rw [chkF_no hch] at CC
    clear hch
    go_enter Try.func14, Try.ntmps14
    go_wp2_with fail
    refine nameW fun W1 hW1 => ?_
    have hB1 : Below w.heap.size w W1 := by rw [hW1.out]; exact (Below.refl _ _).alloc (Nat.le_refl _) _
    clear hW1
    refine (CC W1 hB1).out.mono ?_
    rintro e w2 ⟨rfl, hb2⟩
    have HB2 := Lib.hid (hB1.trans (hb2.mono hB1.size))
    clear hb2 hB1 CC
    go_wp2_with fail
    go_ret2
    exact ⟨by rw [HZ.out]; rfl, HB2.out⟩
  obtain ⟨V, hn⟩ := nok_of hch
  rw [chkF_yes hch] at CC
  have HN := Lib.hid hn
  have HCH := Lib.hid hch
  have hVs := hn.vs
  have hV2 := hn.lo
  have hV5 := hn.hi
  have hlen := hn.len
  rw [hVs] at CC ⊢
  clear hch hn
  go_enter Try.func14, Try.ntmps14
  go_wp2_with fail
  refine nameW fun W1 hW1 => ?_
  have hB1 : Below w.heap.size w W1 := by rw [hW1.out]; exact (Below.refl _ _).alloc (Nat.le_refl _) _
  have hk1 : W1.heap[w.heap.size]? = some (.cells #[.int .i64 (V : Int), .slice A n.arcs.length c] 24 (0, 0)) := by rw [hW1.out, heap_alloc_if, if_pos rfl]
  clear hW1
  refine (CC W1 hB1).out.mono ?_
  rintro e w2 ⟨rfl, hb2⟩
  have hk2 := (hb2.block _ (lt_heap hk1)).trans hk1
  have HB2 := Lib.hid (hB1.trans (hb2.mono hB1.size))
  have HK2 := Lib.hid hk2
  have c0 : w2.cell? ⟨w.heap.size, 0, none⟩ = some (.int .i64 (V : Int)) := cell_of hk2 rfl
  have c1 : w2.cell? ⟨w.heap.size, 1, none⟩ = some (.slice A n.arcs.length c) := cell_of hk2 rfl
  have hN2 := lt_heap hk2
  clear hb2 hk1 hk2 hB1 CC
  obtain ⟨cs, hmk, hmr⟩ := makeBools V (by omega)
  have HMR := Lib.hid hmr
  clear hmr
  go_wp2_with fail
  clear hmk
  refine nameC fun W3 hW3 => ?_
  have hb3 : Below w2.heap.size w2 W3 := by rw [hW3.out]; exact (Below.refl _ _).alloc (Nat.le_refl _) _
  have HB3 := Lib.hid (HB2.out.trans (hb3.mono HB2.out.size))
  have HK3 := Lib.hid ((hb3.block _ (lt_heap HK2.out)).trans HK2.out)
  have hr3 := HMR.out w2
  rw [← hW3.out] at hr3
  obtain ⟨bb, hbb⟩ : ∃ bb, bb = w2.heap.size := ⟨_, rfl⟩
  rw [← hbb] at hN2 hr3 ⊢
  have HR3 := Lib.hid (hr3.congr (g := fun v => .bool (inS s 0 v)) fun v _ => by rw [inS_zero])
  clear hW3 hb3 hbb HB2 HK2 c0 c1 HMR hr3
  have hwV : IntKind.i64.wrap ((V : Int) - 1) = (V : Int) - 1 := IntWalk.i64_in _ (by omega)
  go_loopg [4, 22] s.length (fun gk q4 q22 wr => ∃ k : Nat, k ≤ s.length ∧ gk = s.length - k ∧ q4 = .int .i64 0 ∧ q22 = .int .i64 (k : Int) ∧ Hid (Below w.heap.size w wr) ∧ Hid (wr.heap[w.heap.size]? = some (.cells #[.int .i64 (V : Int), .slice A n.arcs.length c] 24 (0, 0))) ∧ Hid (wr.rowIs bb 4 V (fun v => .bool (inS s k v))) ∧ Hid (sTo n s k))
  case atStart => exact ⟨0, Nat.zero_le _, rfl, rfl, rfl, HB3, HK3, HR3, Lib.hid fun j hj => absurd hj (by omega)⟩
  case round =>
    obtain ⟨k, hk, hgk, rfl, rfl, HB, HK, HR, HO⟩ := hrel
    clear HB3 HK3 HR3
    by_cases hkl : k < s.length
    · have hkI : (k : Int) < (s.length : Int) := by omega
      have hk0 : (0 : Int) ≤ (k : Int) := by omega
      obtain ⟨ba, off, rfl, hba, e0⟩ := HS.out.at_ HB.out hkl
      obtain ⟨x, hx⟩ : ∃ x, x = nthI s k := ⟨_, rfl⟩
      rw [← hx] at e0
      have HX := Lib.hid hx
      have k0 : wr.cell? ⟨w.heap.size, 0, none⟩ = some (.int .i64 (V : Int)) := cell_of HK.out rfl
      clear hx
      by_cases hneg : x < 0
      · have HZ := Lib.hid (show capF n s = (0, 1) by unfold capF; rw [HCH.out, sideB_no hkl (okS_no (by rw [← HX.out]; omega))]; rfl)
        go_wp2_with fail
        go_ret2
        exact ⟨by rw [HZ.out]; rfl, HB.out⟩
      have hdn : decide (x < 0) = false := decide_eq_false hneg
      by_cases hov : (V : Int) - 1 ≤ x
      · have HZ := Lib.hid (show capF n s = (0, 1) by unfold capF; rw [HCH.out, sideB_no hkl (okS_no (by rw [← HX.out, hVs]; omega))]; rfl)
        go_wp2_with fail
        go_ret2
        exact ⟨by rw [HZ.out]; rfl, HB.out⟩
      have hdo : decide ((V : Int) - 1 ≤ x) = false := decide_eq_false hov
      obtain ⟨y, rfl⟩ : ∃ y : Nat, x = (y : Int) := ⟨x.toNat, by omega⟩
      have hyV : y < V := by omega
      have hyI : (y : Int) < (V : Int) := by omega
      have hy0 : (0 : Int) ≤ (y : Int) := by omega
      have hfr := HR.out.frozen y
      have hcl := HR.out.cell (i := y) hyV
      have hbl := HR.out.lt
      by_cases hgood : k = 0 ∨ nthI s (k - 1) < (y : Int)
      · have HR7 : Hid ((wr.setCell ⟨bb, y, none⟩ (.bool true)).rowIs bb 4 V (fun v => .bool (inS s (k + 1) v))) := Lib.hid ((HR.out.set y (.bool true)).congr fun v _ => by
          rw [inS_succ hkl HX.out.symm]
          by_cases q1 : v = y
          · subst q1; rw [if_pos rfl, if_pos rfl]
          · rw [if_neg q1, if_neg q1])
        have HB7 : Hid (Below w.heap.size w (wr.setCell ⟨bb, y, none⟩ (.bool true))) := Lib.hid (HB.out.setCell (by show w.heap.size ≤ bb; omega) _)
        have HK7 : Hid ((wr.setCell ⟨bb, y, none⟩ (.bool true)).heap[w.heap.size]? = some (.cells #[.int .i64 (V : Int), .slice A n.arcs.length c] 24 (0, 0))) := Lib.hid (by
          rw [heap_set_if, if_neg (by omega)]; exact HK.out)
        have HO7 := Lib.hid (sTo_succ HO.out (okS_yes (by rw [← HX.out, hVs]; omega)))
        by_cases hkz : k = 0
        · have hdk : decide ((0 : Int) < (k : Int)) = false := decide_eq_false (by omega)
          clear hgood
          subst hkz
          rw [Nat.add_zero] at e0
          go_wp2_with fail
          generalize wr.setCell ⟨bb, y, none⟩ (.bool true) = W7 at HB7 HK7 HR7 ⊢
          clear hdk hfr hcl k0
          go_wp2_with fail
          go_roundg (s.length - 1)
          case measure => omega
          case rel => exact ⟨1, by omega, rfl, rfl, by go_num, HB7, HK7, HR7, HO7⟩
        · obtain ⟨p, hp⟩ : ∃ p, p = k - 1 := ⟨_, rfl⟩
          have hpk : IntKind.i64.wrap ((k : Int) - 1) = (k : Int) - 1 := IntWalk.i64_in _ (by omega)
          have hpn : ((k : Int) - 1).toNat = k - 1 := by omega
          obtain ⟨b', off', e', -, e1⟩ := HS.out.at_ HB.out (show p < s.length by omega)
          cases e'
          rw [← hp] at hgood
          have hdk : decide ((0 : Int) < (k : Int)) = true := decide_eq_true (by omega)
          have hgd : decide ((y : Int) ≤ nthI s p) = false := decide_eq_false (by omega)
          have hp0 : (0 : Int) ≤ (k : Int) - 1 := by omega
          have hp1 : (k : Int) - 1 < (s.length : Int) := by omega
          obtain ⟨z, hz⟩ : ∃ z, z = nthI s p := ⟨_, rfl⟩
          rw [← hz] at e1 hgd
          rw [hp] at e1
          clear hkz hgood hp hz
          go_wp2_with fail
          generalize wr.setCell ⟨bb, y, none⟩ (.bool true) = W7 at HB7 HK7 HR7 ⊢
          clear hdk hfr hcl k0 hgd hp0 hp1 e1
          go_wp2_with fail
          go_roundg (s.length - (k + 1))
          case measure => omega
          case rel => exact ⟨k + 1, by omega, rfl, rfl, by go_num, HB7, HK7, HR7, HO7⟩
      · have HZ := Lib.hid (show capF n s = (0, 1) by unfold capF; rw [HCH.out, sideB_no hkl (okS_no (by rw [← HX.out, hVs]; omega))]; rfl)
        obtain ⟨p, hp⟩ : ∃ p, p = k - 1 := ⟨_, rfl⟩
        have hpk : IntKind.i64.wrap ((k : Int) - 1) = (k : Int) - 1 := IntWalk.i64_in _ (by omega)
        have hpn : ((k : Int) - 1).toNat = k - 1 := by omega
        obtain ⟨b', off', e', -, e1⟩ := HS.out.at_ HB.out (show p < s.length by omega)
        cases e'
        rw [← hp] at hgood
        have hdk : decide ((0 : Int) < (k : Int)) = true := decide_eq_true (by omega)
        have hgd : decide ((y : Int) ≤ nthI s p) = true := decide_eq_true (by omega)
        have hp0 : (0 : Int) ≤ (k : Int) - 1 := by omega
        have hp1 : (k : Int) - 1 < (s.length : Int) := by omega
        obtain ⟨z, hz⟩ : ∃ z, z = nthI s p := ⟨_, rfl⟩
        rw [← hz] at e1 hgd
        rw [hp] at e1
        clear hgood hp hz
        go_wp2_with fail
        go_ret2
        exact ⟨by rw [HZ.out]; rfl, HB.out⟩
    · have hnl : ¬ (k : Int) < (s.length : Int) := by omega
      obtain rfl : k = s.length := by omega
      have HR2 := Lib.hid (HR.out.congr (g := fun v => .bool (setS s v)) fun v _ => by rw [inS_all]; rfl)
      have hsb := sideB_with HO.out
      have hV0 : 0 < V := by omega
      have hcl := HR2.out.cell (i := 0) hV0
      have hbl := HR2.out.lt
      have hVI : (0 : Int) < (V : Int) := by omega
      cases hs0 : setS s 0
      · have HZ := Lib.hid (show capF n s = (0, 1) by
          unfold capF; rw [HCH.out, hsb]
          show (if true = true then (if setS s 0 = true then _ else _) else _) = _
          rw [hs0]; rfl)
        rw [hs0] at hcl
        clear hsb hs0
        go_wp2_with fail
        go_ret2
        exact ⟨by rw [HZ.out]; rfl, HB.out⟩
      have HZ := Lib.hid (show capF n s = (capTo n s n.arcs.length, 0) by
        unfold capF; rw [HCH.out, hsb]
        show (if true = true then (if setS s 0 = true then _ else _) else _) = _
        rw [hs0]; rfl)
      rw [hs0] at hcl
      clear hsb hs0 hk hkl hnl HR HO
      have k1 : wr.cell? ⟨w.heap.size, 1, none⟩ = some (.slice A n.arcs.length c) := cell_of HK.out rfl
      go_wp2_with fail
      clear k1 hcl hVI hbl
      go_loopg [4, 11, 60] n.arcs.length (fun gk q4 _ q60 wx => ∃ k : Nat, k ≤ n.arcs.length ∧ gk = n.arcs.length - k ∧ q4 = .int .i64 (capTo n s k) ∧ q60 = .int .i64 (k : Int) ∧ Hid (Below w.heap.size w wx) ∧ Hid (wx.rowIs bb 4 V (fun v => .bool (setS s v))))
      case atStart => exact ⟨0, Nat.zero_le _, rfl, rfl, rfl, HB, HR2⟩
      case round =>
        obtain ⟨k, hk, hgk, rfl, rfl, HB, HR⟩ := hrel
        clear HR2
        by_cases hkl : k < n.arcs.length
        · have hkI : (k : Int) < (n.arcs.length : Int) := by omega
          have hk0 : (0 : Int) ≤ (k : Int) := by omega
          obtain ⟨ba, off, rfl, hba, e0, e1, e2⟩ := HA.out.at_ HB.out hkl
          obtain ⟨a, b, cp, harc, ha, hb0, hb, hab, hcp⟩ := HN.out.arc k hkl
          have HST : Hid (capTo n s (k + 1) = capTo n s k + if s.contains (nthA n.arcs k).src && !s.contains (nthA n.arcs k).dst then (nthA n.arcs k).cap else 0) := Lib.hid rfl
          rw [harc] at e0 e1 e2 HST
          dsimp only at e0 e1 e2 HST
          change Hid (_ = _ + if (setS s a && !setS s b) = true then _ else _) at HST
          have hcl := capTo_le HN.out s hk
          have hcl2 := capTo_le HN.out s (show k + 1 ≤ n.arcs.length from hkl)
          obtain ⟨t, ht⟩ : ∃ t, t = capTo n s k := ⟨_, rfl⟩
          obtain ⟨t', ht'⟩ : ∃ t, t = capTo n s (k + 1) := ⟨_, rfl⟩
          rw [← ht] at hcl HST ⊢
          rw [← ht'] at hcl2 HST
          have HT' := Lib.hid ht'
          clear harc ht ht'
          go_upto_region 17 with fail
          refine nameC fun W4 hW4 => ?_
          have hb4 : Below wr.heap.size wr W4 := by rw [hW4.out]; exact (Below.refl _ _).alloc (Nat.le_refl _) _
          obtain ⟨b5, hb5⟩ : ∃ b5, b5 = wr.heap.size := ⟨_, rfl⟩
          have hX4 : W4.heap[b5]? = some (.cells #[.int .i64 (a : Int), .int .i64 (b : Int), .int .i64 (cp : Int)] 45 (0, 0)) := by rw [hW4.out, hb5, heap_alloc_if, if_pos rfl]
          have HB4 := Lib.hid (HB.out.trans (hb4.mono HB.out.size))
          have hR4 := (HR.out.of_block (hb4.block _ HR.out.lt))
          have x0 : W4.cell? ⟨b5, 0, none⟩ = some (.int .i64 (a : Int)) := cell_of hX4 rfl
          have x1 : W4.cell? ⟨b5, 1, none⟩ = some (.int .i64 (b : Int)) := cell_of hX4 rfl
          have x2 : W4.cell? ⟨b5, 2, none⟩ = some (.int .i64 (cp : Int)) := cell_of hX4 rfl
          have ta := hR4.cell (i := a) (by omega)
          have tb := hR4.cell (i := b) hb
          have HR4 := Lib.hid hR4
          have haI : (a : Int) < (V : Int) := by omega
          have hbI : (b : Int) < (V : Int) := by omega
          have ha0 : (0 : Int) ≤ (a : Int) := by omega
          have hb00 : (0 : Int) ≤ (b : Int) := by omega
          rw [← hb5]
          clear hW4 hb4 hX4 hb5 e0 e1 e2 hR4
          cases hsa : setS s a
          · rw [hsa] at ta HST
            have HTT := Lib.hid (show t' = t by rw [HST.out]; simp)
            clear hsa
            go_wp2_with fail
            go_roundg (n.arcs.length - (k + 1))
            case measure => omega
            case rel => exact ⟨k + 1, by omega, rfl, by rw [← HT'.out, HTT.out], by go_num, HB4, HR4⟩
          · cases hsb : setS s b
            · rw [hsa] at ta HST
              rw [hsb] at tb HST
              have HTT := Lib.hid (show t' = t + cp by rw [HST.out]; simp)
              have hwr : IntKind.i64.wrap (t + (cp : Int)) = t' := by rw [← HTT.out]; exact IntWalk.i64_in _ (by omega)
              clear hsa hsb
              go_wp2_with fail
              go_roundg (n.arcs.length - (k + 1))
              case measure => omega
              case rel => exact ⟨k + 1, by omega, rfl, by rw [← HT'.out, HTT.out], by go_num, HB4, HR4⟩
            · rw [hsa] at ta HST
              rw [hsb] at tb HST
              have HTT := Lib.hid (show t' = t by rw [HST.out]; simp)
              clear hsa hsb
              go_wp2_with fail
              go_roundg (n.arcs.length - (k + 1))
              case measure => omega
              case rel => exact ⟨k + 1, by omega, rfl, by rw [← HT'.out, HTT.out], by go_num, HB4, HR4⟩
        · have hnl : ¬ (k : Int) < (n.arcs.length : Int) := by omega
          obtain rfl : k = n.arcs.length := by omega
          go_wp2_with fail
          go_ret2
          exact ⟨by rw [HZ.out]; rfl, HB.out⟩
end Go.Proofs.Ytikddknhcfhnbaa
