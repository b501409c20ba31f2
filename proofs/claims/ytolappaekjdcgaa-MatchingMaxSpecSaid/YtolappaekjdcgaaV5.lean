/- The reference's Check. -/
import Derived.Test.YtolappaekjdcgaaV2
import Derived.Test.YtolappaekjdcgaaA3
namespace Go.Proofs.Ytolappaekjdcgaa
open Go.RowKit
set_option maxHeartbeats 4000000 in
theorem refCheck_any (w : World) (M : Nat → Prop) (v : Value) (g : GrD) (h : IsGraph w M v g) : Calls Try.prog 12 #[v] w (RetE (chkG g) w) := by
  obtain ⟨v2, rfl, h⟩ := h
  have H := Lib.hid h
  obtain ⟨A, c, rfl, h1, h2, -⟩ := h
  have HNo := Lib.hid (@chkG_no g)
  have HYes := Lib.hid (@chkG_yes g)
  obtain ⟨z, hz⟩ : ∃ z, z = chkG g := ⟨_, rfl⟩
  rw [← hz] at HNo HYes ⊢
  clear hz
  obtain ⟨L, hL⟩ : ∃ L, L = g.left := ⟨_, rfl⟩
  obtain ⟨R, hR⟩ : ∃ R, R = g.right := ⟨_, rfl⟩
  rw [← hL, ← hR]
  by_cases t1 : L < 0
  · have HZ := Lib.hid (HNo.out (sizeOk_no1 (hL ▸ t1)))
    clear hL hR
    go_enter Try.func12, Try.ntmps12
    go_wp2_with fail
    go_ret
    exact ⟨ret_int HZ.out.symm, (Below.refl _ _).alloc (Nat.le_refl _) _⟩
  by_cases t2 : 512 < L
  · have HZ := Lib.hid (HNo.out (sizeOk_no2 (hL ▸ t2)))
    clear hL hR
    go_enter Try.func12, Try.ntmps12
    go_wp2_with fail
    go_ret
    exact ⟨ret_int HZ.out.symm, (Below.refl _ _).alloc (Nat.le_refl _) _⟩
  by_cases t3 : R < 0
  · have HZ := Lib.hid (HNo.out (sizeOk_no3 (hR ▸ t3)))
    clear hL hR
    go_enter Try.func12, Try.ntmps12
    go_wp2_with fail
    go_ret
    exact ⟨ret_int HZ.out.symm, (Below.refl _ _).alloc (Nat.le_refl _) _⟩
  by_cases t4 : 512 < R
  · have HZ := Lib.hid (HNo.out (sizeOk_no4 (hR ▸ t4)))
    clear hL hR
    go_enter Try.func12, Try.ntmps12
    go_wp2_with fail
    go_ret
    exact ⟨ret_int HZ.out.symm, (Below.refl _ _).alloc (Nat.le_refl _) _⟩
  by_cases t5 : (4096 : Int) < (g.edges.length : Int)
  · have HZ := Lib.hid (HNo.out (sizeOk_no5 (by omega)))
    clear hL hR
    go_enter Try.func12, Try.ntmps12
    go_wp2_with fail
    go_ret
    exact ⟨ret_int HZ.out.symm, (Below.refl _ _).alloc (Nat.le_refl _) _⟩
  have HSZ := Lib.hid (sizeOk_yes (hL ▸ t1) (hL ▸ t2) (hR ▸ t3) (hR ▸ t4) (by omega))
  have HEdge := fun k (hk : k < g.edges.length) (h : okE g k = false) => Lib.hid (HNo.out (chk_no hk h))
  have HOK : ∀ k, Hid (okE g k = (decide (0 ≤ (nthE g.edges k).1) && (decide ((nthE g.edges k).1 < L) && (decide (0 ≤ (nthE g.edges k).2) && (decide ((nthE g.edges k).2 < R) && (decide (k = 0) || decide (ordE (nthE g.edges (k - 1)) (nthE g.edges k) < 0))))))) := fun k => Lib.hid (by rw [hL, hR]; rfl)
  have HLR := Lib.hid (And.intro hL hR)
  clear hL hR
  go_enter Try.func12, Try.ntmps12
  go_wp2_with fail
  go_loopw [3] (fun q32 wr => ∃ k : Nat, k ≤ g.edges.length ∧ q32 = .int .i64 (k : Int) ∧ Hid (okTo g k) ∧ Hid (Below w.heap.size w wr) ∧ wr.heap[w.heap.size]? = some (.cells #[.int .i64 L, .int .i64 R, .slice A g.edges.length c] 24 (0, 0))) (fun q _ => g.edges.length - (intOf q).toNat)
  case atStart => exact ⟨0, Nat.zero_le _, rfl, Lib.hid okTo_zero, Lib.hid ((Below.refl w.heap.size w).alloc (Nat.le_refl _) _), by simp only [heap_alloc_if]; rw [if_pos trivial]⟩
  case round =>
    obtain ⟨k, hk, rfl, HT, HB, hbox⟩ := hrel
    have HX := Lib.hid hbox
    have hbl := lt_heap hbox
    have g0 := cell_of (j := 0) hbox rfl
    have g1 := cell_of (j := 1) hbox rfl
    have g2 := cell_of (j := 2) hbox rfl
    clear hbox
    by_cases hlt : k < g.edges.length
    · have hlt2 : (k : Int) < (g.edges.length : Int) := by omega
      have hk0 : (0 : Int) ≤ (k : Int) := by omega
      obtain ⟨b, off, rfl, hb, e0, e1⟩ := H.out.at_ HB.out hlt
      rw [← nthE_get hlt] at e0 e1
      have hbw : b < wr.heap.size := Nat.lt_of_lt_of_le hb HB.out.size
      have HE := HEdge k hlt
      have HO := HOK k
      have HS := Lib.hid (okTo_succ HT.out (k := k))
      have HPrev : Hid (0 < k → wr.cell? ⟨b, off + (k - 1) * 2, none⟩ = some (.int .i64 (nthE g.edges (k - 1)).1) ∧ wr.cell? ⟨b, off + (k - 1) * 2 + 1, none⟩ = some (.int .i64 (nthE g.edges (k - 1)).2)) := Lib.hid (fun h0 => by
        obtain ⟨b', off', e, -, p0, p1⟩ := H.out.at_ HB.out (show k - 1 < g.edges.length by omega)
        cases e
        rw [nthE_get (by omega)]
        exact ⟨p0, p1⟩)
      obtain ⟨a, ha⟩ : ∃ a, a = nthE g.edges k := ⟨_, rfl⟩
      obtain ⟨p, hp⟩ : ∃ p, p = nthE g.edges (k - 1) := ⟨_, rfl⟩
      rw [← ha] at e0 e1 HO
      rw [← hp] at HO HPrev
      obtain ⟨x, y⟩ := a
      obtain ⟨px, py⟩ := p
      clear ha hp HEdge HOK
      dsimp only at e0 e1 HO HPrev
      have CV := fun W a b => Lib.hid (vertex_any W a b)
      have HV1 : Hid (∀ z, z = vtxB x L → okE g k = (z && (vtxB y R && (decide (k = 0) || decide (ordE (px, py) (x, y) < 0))))) := Lib.hid (fun z hz => by rw [HO.out, hz]; unfold vtxB; cases decide (0 ≤ x) <;> cases decide (x < L) <;> cases decide (0 ≤ y) <;> rfl)
      have C1 := fun W => CV W x L
      have C2 := fun W => CV W y R
      obtain ⟨z1, hz1⟩ : ∃ z, z = vtxB x L := ⟨_, rfl⟩
      obtain ⟨z2, hz2⟩ : ∃ z, z = vtxB y R := ⟨_, rfl⟩
      have HV := Lib.hid (HV1.out z1 hz1)
      rw [← hz1] at C1
      rw [← hz2] at C2 HV
      clear CV HV1 hz1 hz2 HO
      cases z1
      · have HZ := HE (by rw [HV.out]; rfl)
        go_wp2_with (with_reducible refine (C1 _).out.mono ?_; rintro e w' ⟨rfl, rfl⟩)
        go_ret
        exact ⟨ret_int HZ.out.symm, HB.out.trans ((Below.refl _ _).alloc (Nat.le_refl _) _ |>.mono HB.out.size)⟩
      cases z2
      · have HZ := HE (by rw [HV.out]; rfl)
        go_wp2_with (first | (with_reducible refine (C1 _).out.mono ?_; rintro e w' ⟨rfl, rfl⟩) | (with_reducible refine (C2 _).out.mono ?_; rintro e w' ⟨rfl, rfl⟩))
        go_ret
        exact ⟨ret_int HZ.out.symm, HB.out.trans ((Below.refl _ _).alloc (Nat.le_refl _) _ |>.mono HB.out.size)⟩
      rcases Nat.eq_zero_or_pos k with hk00 | hkp
      · have HN := Lib.hid (HS.out (by rw [HV.out, decide_eq_true hk00]; rfl))
        have dk : decide ((0 : Int) < (k : Int)) = false := decide_eq_false (by omega)
        have dk2 : decide (0 < k) = false := decide_eq_false (by omega)
        clear HV HE HS HPrev hk00
        go_wp2_with (first | (with_reducible refine (C1 _).out.mono ?_; rintro e w' ⟨rfl, rfl⟩) | (with_reducible refine (C2 _).out.mono ?_; rintro e w' ⟨rfl, rfl⟩))
        go_quiet (fail)
        go_wp2_with fail
        go_roundw
        case rel => exact ⟨k + 1, by omega, by go_num, HN, Lib.hid (HB.out.trans (Below.mono (below_drewN ((Below.refl _ _).alloc (Nat.le_refl _) _) _) HB.out.size)), ((below_drewN ((Below.refl wr.heap.size wr).alloc (Nat.le_refl _) _) _).block w.heap.size hbl).trans HX.out⟩
        case measure => simp [intOf]; omega
      · obtain ⟨p0, p1⟩ := HPrev.out hkp
        obtain ⟨m, rfl⟩ : ∃ m, k = m + 1 := ⟨k - 1, by omega⟩
        rw [Nat.add_sub_cancel] at p0 p1
        have hm1 : ((m + 1 : Nat) : Int) = (m : Int) + 1 := by omega
        rw [hm1] at hlt2 hk0 ⊢
        have dk : decide ((0 : Int) < (m : Int) + 1) = true := decide_eq_true (by omega)
        have dk2 : decide (0 < m + 1) = true := decide_eq_true (by omega)
        have hml : (m : Int) < (g.edges.length : Int) := by omega
        have hmn : m < g.edges.length := by omega
        have hw1 : IntKind.i64.wrap ((m : Int) + 1 - 1) = (m : Int) := by rw [show (m : Int) + 1 - 1 = (m : Int) by omega]; exact IntWalk.i64_in _ (by omega)
        have hw2 : IntKind.i64.wrap (m : Int) = (m : Int) := IntWalk.i64_in _ (by omega)
        have HOR : Hid (ordE (px, py) (x, y) < 0 ↔ (px < x ∨ px = x ∧ py < y)) := Lib.hid ordE_lt
        have HVV := Lib.hid (HV.out.trans (by rw [Bool.true_and, Bool.true_and, decide_eq_false (p := m + 1 = 0) (by omega), Bool.false_or]))
        clear hm1 HPrev HV hkp
        have FAILS : ∀ h : ¬ (px < x ∨ px = x ∧ py < y), Hid (z = 250) := fun h => HE (by rw [HVV.out]; exact decide_eq_false (fun e => h (HOR.out.1 e)))
        have GOES : ∀ h : (px < x ∨ px = x ∧ py < y), Hid (okTo g (m + 1 + 1)) := fun h => Lib.hid (HS.out (by rw [HVV.out]; exact decide_eq_true (HOR.out.2 h)))
        clear HE HS HVV HOR
        have HWS : Hid (px < x ∨ x < px ∨ px = x) := Lib.hid (by omega)
        rcases HWS.out with hx | hx | hx
        · have HN := GOES (.inl hx)
          have d1 : decide (x < px) = false := decide_eq_false (by omega)
          have d2 : (px == x) = false := by rw [beq_eq_false_iff_ne]; omega
          have d3 : decide (px = x) = false := decide_eq_false (by omega)
          clear FAILS GOES hx
          go_wp2_with (first | (with_reducible refine (C1 _).out.mono ?_; rintro e w' ⟨rfl, rfl⟩) | (with_reducible refine (C2 _).out.mono ?_; rintro e w' ⟨rfl, rfl⟩))
          go_quiet (fail)
          go_wp2_with fail
          go_roundw
          case rel => exact ⟨m + 1 + 1, by omega, by go_num, HN, Lib.hid (HB.out.trans (Below.mono (below_drewN ((Below.refl _ _).alloc (Nat.le_refl _) _) _) HB.out.size)), ((below_drewN ((Below.refl wr.heap.size wr).alloc (Nat.le_refl _) _) _).block w.heap.size hbl).trans HX.out⟩
          case measure => simp [intOf]; omega
        · have HN := FAILS (by omega)
          have d1 : decide (x < px) = true := decide_eq_true hx
          clear FAILS GOES hx
          go_wp2_with (first | (with_reducible refine (C1 _).out.mono ?_; rintro e w' ⟨rfl, rfl⟩) | (with_reducible refine (C2 _).out.mono ?_; rintro e w' ⟨rfl, rfl⟩))
          go_quiet (fail)
          go_wp2_with fail
          go_ret
          exact ⟨ret_int HN.out.symm, HB.out.trans (Below.mono (below_drewN ((Below.refl _ _).alloc (Nat.le_refl _) _) _) HB.out.size)⟩
        · subst hx
          have d1 : decide (px < px) = false := decide_eq_false (by omega)
          have d2 : (px == px) = true := by simp
          by_cases hy : py < y
          · have HN := GOES (.inr ⟨rfl, hy⟩)
            have d3 : decide (y ≤ py) = false := decide_eq_false (by omega)
            clear FAILS GOES hy
            go_wp2_with (first | (with_reducible refine (C1 _).out.mono ?_; rintro e w' ⟨rfl, rfl⟩) | (with_reducible refine (C2 _).out.mono ?_; rintro e w' ⟨rfl, rfl⟩))
            go_quiet (fail)
            go_wp2_with fail
            go_roundw
            case rel => exact ⟨m + 1 + 1, by omega, by go_num, HN, Lib.hid (HB.out.trans (Below.mono (below_drewN ((Below.refl _ _).alloc (Nat.le_refl _) _) _) HB.out.size)), ((below_drewN ((Below.refl wr.heap.size wr).alloc (Nat.le_refl _) _) _).block w.heap.size hbl).trans HX.out⟩
            case measure => simp [intOf]; omega
          · have HN := FAILS (by omega)
            have d3 : decide (y ≤ py) = true := decide_eq_true (by omega)
            clear FAILS GOES hy
            go_wp2_with (first | (with_reducible refine (C1 _).out.mono ?_; rintro e w' ⟨rfl, rfl⟩) | (with_reducible refine (C2 _).out.mono ?_; rintro e w' ⟨rfl, rfl⟩))
            go_quiet (fail)
            go_wp2_with fail
            go_ret
            exact ⟨ret_int HN.out.symm, HB.out.trans (Below.mono (below_drewN ((Below.refl _ _).alloc (Nat.le_refl _) _) _) HB.out.size)⟩
    · have hnl : ¬ (k : Int) < (g.edges.length : Int) := by omega
      obtain rfl : k = g.edges.length := by omega
      have HN := Lib.hid (HYes.out (chk_all HSZ.out HT.out))
      go_wp2_with fail
      go_ret
      exact ⟨ret_int HN.out.symm, HB.out⟩
end Go.Proofs.Ytolappaekjdcgaa
