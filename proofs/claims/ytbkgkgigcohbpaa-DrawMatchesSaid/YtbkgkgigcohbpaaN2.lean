/- For every draw and two numbers the law DrawBijection of the given program returns true. -/
import Derived.Test.YtbkgkgigcohbpaaN1
namespace Go.Proofs.Ytbkgkgigcohbpaa
open Go.RowKit
/-- what the law finds at place k: whether the lists agree so far, and what the last place at which they part says -/
theorem refBad {d : DrawD} (h : checkB d = false) : ¬ checkD d = 0 := by rw [checkD_no h]; decide
/-- the lists agree up to k -/
def agree (a b : List Int) (k : Nat) : Prop := ∀ j, j < k → nthI a j = nthI b j
theorem ltL_at : ∀ {a b : List Nat} {k : Nat} (ha : k < a.length) (hb : k < b.length), (∀ j (h1 : j < k), a[j]'(by omega) = b[j]'(by omega)) → a[k] ≠ b[k] → (ltL a b → a[k] < b[k])
  | [], _, _, ha, _, _, _ => absurd ha (by simp)
  | _ :: _, [], _, _, hb, _, _ => absurd hb (by simp)
  | x :: a, y :: b, 0, _, _, _, hne => fun h => h.elim (fun h => h) fun h => absurd h.1 hne
  | x :: a, y :: b, k + 1, ha, hb, he, hne => fun h => by
    have e0 : x = y := he 0 (by omega)
    rcases h with h | h
    · omega
    · exact ltL_at (a := a) (b := b) (k := k) (by simpa using ha) (by simpa using hb) (fun j h1 => by have := he (j + 1) (by omega); simpa using this) hne h.2
theorem largeD_len {d : DrawD} (h : largeD d = false) : d.forb.length ≤ 80 := by
  unfold largeD at h
  rw [Bool.or_eq_false_iff, Bool.or_eq_false_iff] at h
  have := of_decide_eq_false h.2.2
  omega
/-- the outcome with a number that there is -/
theorem outcome_at {d : DrawD} (h : checkB d = true) {k : Nat} (hk : k < Rn (mayD d) (nD d) 0) : ∃ a, (outsD d)[k]? = some a ∧ a ∈ outsD d ∧ outcomeD d k = (ofN a, 0) ∧ numberD d (ofN a) = (k, 0) := by
  have hl : k < (outsD d).length := by rw [outsD_len]; exact hk
  refine ⟨(outsD d)[k], List.getElem?_eq_getElem hl, List.getElem_mem hl, ?_, numberD_at h (List.getElem?_eq_getElem hl) rfl⟩
  rw [outcomeD_yes h hk, List.getD_eq_getElem?_getD, List.getElem?_eq_getElem hl]; rfl
set_option maxHeartbeats 4000000 in
set_option maxRecDepth 8000 in
theorem law5 (w : World) (M : Nat → Prop) (v : Value) (d : DrawD) (h : IsDraw w M v d) (x y : Nat) :
    Calls Try.prog 5 #[v, .int .u64 (x : Int), .int .u64 (y : Int)] w fun e w' => e = .returned (.bool true) ∧ Below w.heap.size w w' := by
  have HD := Lib.hid h
  obtain ⟨v1, v2, v3, rfl, -, -, -⟩ := h
  go_enter Try.func5, Try.ntmps5
  go_wp2_with fail
  refine nameW fun W1 hW1 => ?_
  have hB1 : Below w.heap.size w W1 := by rw [hW1.out]; exact (Below.refl w.heap.size w).alloc (Nat.le_refl _) _
  have hb1 : W1.heap[w.heap.size]? = some (.cells #[v1, v2, v3] 25 (0, 0)) := by rw [hW1.out, heap_alloc_if, if_pos rfl]
  refine (sane_any W1).mono ?_
  rintro e W2 ⟨rfl, hB2⟩
  have hb2 := (hB2.block w.heap.size (lt_heap hb1)).trans hb1
  have HB2 := Lib.hid (hB1.trans (hB2.mono hB1.size))
  have HX2 := Lib.hid hb2
  have c0 := cell_of (j := 0) hb2 rfl
  have c1 := cell_of (j := 1) hb2 rfl
  have c2 := cell_of (j := 2) hb2 rfl
  clear hB1 hb1 hB2 hb2 hW1
  have CL := Lib.hid (large_any W2 M _ d (HD.out.below HB2.out))
  cases hL : largeD d
  · rw [hL] at CL
    go_wp2_with fail
    refine CL.out.mono ?_
    rintro e W3 ⟨rfl, hB3⟩
    have hb3 := (hB3.block w.heap.size (lt_heap HX2.out)).trans HX2.out
    have HB3 := Lib.hid (HB2.out.trans (hB3.mono HB2.out.size))
    have HX3 := Lib.hid hb3
    clear c0 c1 c2 CL HB2 HX2 hB3
    have c0 := cell_of (j := 0) hb3 rfl
    have c1 := cell_of (j := 1) hb3 rfl
    have c2 := cell_of (j := 2) hb3 rfl
    clear hb3
    have CK := Lib.hid (refCheck_any W3 M _ d (HD.out.below HB3.out))
    cases hc : checkB d
    · rw [checkD_no hc] at CK
      go_wp2_with fail
      refine CK.out.mono ?_
      rintro e W4 ⟨rfl, hB4⟩
      go_wp2_with fail
      go_ret
      exact ⟨rfl, HB3.out.trans (hB4.mono HB3.out.size)⟩
    · rw [checkD_yes hc] at CK
      have HC := Lib.hid hc
      clear hc
      go_wp2_with fail
      refine CK.out.mono ?_
      rintro e W4 ⟨rfl, hB4⟩
      have hb4 := (hB4.block w.heap.size (lt_heap HX3.out)).trans HX3.out
      have HB4 := Lib.hid (HB3.out.trans (hB4.mono HB3.out.size))
      have HX4 := Lib.hid hb4
      clear c0 c1 c2 CK HB3 HX3 hB4
      have c0 := cell_of (j := 0) hb4 rfl
      have c1 := cell_of (j := 1) hb4 rfl
      have c2 := cell_of (j := 2) hb4 rfl
      clear hb4
      have CC := Lib.hid (count_any W4 M _ d (HD.out.below HB4.out))
      rw [show countD d = (Rn (mayD d) (nD d) 0, 0) by unfold countD; rw [HC.out]; rfl] at CC
      have hR16 := Rn_le (may := mayD d) (n := nD d) 0 (checkB_len HC.out).2.1
      obtain ⟨R, hR⟩ : ∃ R, R = Rn (mayD d) (nD d) 0 := ⟨_, rfl⟩
      rw [← hR] at CC hR16
      have HR := Lib.hid hR
      clear hR
      go_wp2_with fail
      refine CC.out.mono ?_
      rintro e W5 ⟨rfl, hB5⟩
      have hb5 := (hB5.block w.heap.size (lt_heap HX4.out)).trans HX4.out
      have HB5 := Lib.hid (HB4.out.trans (hB5.mono HB4.out.size))
      have HX5 := Lib.hid hb5
      clear c0 c1 c2 CC HB4 HX4 hB5
      have c0 := cell_of (j := 0) hb5 rfl
      have c1 := cell_of (j := 1) hb5 rfl
      have c2 := cell_of (j := 2) hb5 rfl
      clear hb5
      by_cases hR0 : R = 0
      · subst hR0
        have CO := Lib.hid (outcome_any W5 M _ d (HD.out.below HB5.out) x)
        rw [outcomeD_never HC.out HR.out.symm] at CO
        go_wp2_with fail
        refine CO.out.mono ?_
        rintro e W6 ⟨v6, rfl, ⟨A6, c6, rfl, -⟩, hB6⟩
        go_wp2_with fail
        go_ret
        exact ⟨rfl, HB5.out.trans (hB6.mono HB5.out.size)⟩
      · have hz1 : ((R : Int) == 0) = false := by rw [beq_eq_false_iff_ne]; omega
        have hz2 : ¬ (R : Int) = 0 := by omega
        have hRp : 0 < R := by omega
        obtain ⟨X, hX⟩ : ∃ X, X = x % R := ⟨_, rfl⟩
        obtain ⟨Y, hY⟩ : ∃ Y, Y = y % R := ⟨_, rfl⟩
        have hxr : (x : Int) % (R : Int) = (X : Int) := by rw [hX, Int.natCast_emod]
        have hyr : (y : Int) % (R : Int) = (Y : Int) := by rw [hY, Int.natCast_emod]
        have hXR : X < R := hX ▸ Nat.mod_lt _ hRp
        have hYR : Y < R := hY ▸ Nat.mod_lt _ hRp
        clear hX hY
        obtain ⟨a, ha1, ha2, ha3, ha4⟩ := outcome_at HC.out (HR.out ▸ hXR)
        obtain ⟨b, hbb1, hbb2, hbb3, -⟩ := outcome_at HC.out (HR.out ▸ hYR)
        have HA := Lib.hid (And.intro ha1 (And.intro ha2 (And.intro ha3 ha4)))
        have HBB := Lib.hid (And.intro hbb1 (And.intro hbb2 hbb3))
        clear ha1 ha2 ha3 ha4 hbb1 hbb2 hbb3 hXR hYR
        go_wp2_with fail
        go_quiet (fail)
        simp only [hxr, hyr]
        clear hxr hyr
        have hB6 := below_drewN (Below.refl W5.heap.size W5) nq
        generalize W5.drewN nq = W6 at hB6 ⊢
        have hb6 := (hB6.block w.heap.size (lt_heap HX5.out)).trans HX5.out
        have HB6 := Lib.hid (HB5.out.trans (hB6.mono HB5.out.size))
        have HX6 := Lib.hid hb6
        clear c0 c1 c2 HB5 HX5
        have c0 := cell_of (j := 0) hb6 rfl
        have c1 := cell_of (j := 1) hb6 rfl
        have c2 := cell_of (j := 2) hb6 rfl
        clear hb6
        clear hB6
        have CO := Lib.hid (outcome_any W6 M _ d (HD.out.below HB6.out) X)
        rw [HA.out.2.2.1] at CO
        go_wp2_with fail
        refine CO.out.mono ?_
        rintro e W7 ⟨v7, rfl, h7, hB7⟩
        have hb7 := (hB7.block w.heap.size (lt_heap HX6.out)).trans HX6.out
        have HB7 := Lib.hid (HB6.out.trans (hB7.mono HB6.out.size))
        have HX7 := Lib.hid hb7
        clear c0 c1 c2 HB6 HX6
        have c0 := cell_of (j := 0) hb7 rfl
        have c1 := cell_of (j := 1) hb7 rfl
        have c2 := cell_of (j := 2) hb7 rfl
        clear hb7
        have H7 := Lib.hid h7
        clear h7 hB7 CO
        have CO := Lib.hid (outcome_any W7 M _ d (HD.out.below HB7.out) Y)
        rw [HBB.out.2.2] at CO
        go_wp2_with fail
        refine CO.out.mono ?_
        rintro e W8 ⟨v8, rfl, h8, hB8⟩
        have hb8 := (hB8.block w.heap.size (lt_heap HX7.out)).trans HX7.out
        have HB8 := Lib.hid (HB7.out.trans (hB8.mono HB7.out.size))
        have HX8 := Lib.hid hb8
        clear c0 c1 c2 HB7 HX7
        have c0 := cell_of (j := 0) hb8 rfl
        have c1 := cell_of (j := 1) hb8 rfl
        have c2 := cell_of (j := 2) hb8 rfl
        clear hb8
        have H8 := Lib.hid h8
        replace H7 := Lib.hid (IsSl.below H7.out hB8)
        clear h8 hB8 CO
        have CP := Lib.hid (permits_any W8 M _ _ _ d a (HD.out.below HB8.out) H7.out HC.out HA.out.2.1)
        go_wp2_with fail
        refine CP.out.mono ?_
        rintro e W9 ⟨rfl, hB9⟩
        have hb9 := (hB9.block w.heap.size (lt_heap HX8.out)).trans HX8.out
        have HB9 := Lib.hid (HB8.out.trans (hB9.mono HB8.out.size))
        have HX9 := Lib.hid hb9
        clear c0 c1 c2 HB8 HX8
        have c0 := cell_of (j := 0) hb9 rfl
        have c1 := cell_of (j := 1) hb9 rfl
        have c2 := cell_of (j := 2) hb9 rfl
        clear hb9
        replace H7 := Lib.hid (IsSl.below H7.out hB9)
        replace H8 := Lib.hid (IsSl.below H8.out hB9)
        clear hB9 CP
        have CP := Lib.hid (permits_any W9 M _ _ _ d b (HD.out.below HB9.out) H8.out HC.out HBB.out.2.1)
        go_wp2_with fail
        refine CP.out.mono ?_
        rintro e W10 ⟨rfl, hB10⟩
        have hb10 := (hB10.block w.heap.size (lt_heap HX9.out)).trans HX9.out
        have HB10 := Lib.hid (HB9.out.trans (hB10.mono HB9.out.size))
        have HX10 := Lib.hid hb10
        clear c0 c1 c2 HB9 HX9
        have c0 := cell_of (j := 0) hb10 rfl
        have c1 := cell_of (j := 1) hb10 rfl
        have c2 := cell_of (j := 2) hb10 rfl
        clear hb10
        replace H7 := Lib.hid (IsSl.below H7.out hB10)
        replace H8 := Lib.hid (IsSl.below H8.out hB10)
        clear hB10 CP
        have CN := Lib.hid (number_any W10 (fun _ => True) _ _ d (ofN a) (HD.out.below HB10.out).tt (IsInts.tt H7.out))
        rw [HA.out.2.2.2] at CN
        go_wp2_with fail
        refine CN.out.mono ?_
        rintro e W11 ⟨rfl, hB11⟩
        have hb11 := (hB11.block w.heap.size (lt_heap HX10.out)).trans HX10.out
        have HB11 := Lib.hid (HB10.out.trans (hB11.mono HB10.out.size))
        have HX11 := Lib.hid hb11
        clear c0 c1 c2 HB10 HX10
        have c0 := cell_of (j := 0) hb11 rfl
        have c1 := cell_of (j := 1) hb11 rfl
        have c2 := cell_of (j := 2) hb11 rfl
        clear hb11
        replace H7 := Lib.hid (IsSl.below H7.out hB11)
        replace H8 := Lib.hid (IsSl.below H8.out hB11)
        clear hB11 CN
        have CO := Lib.hid (outcome_any W11 M _ d (HD.out.below HB11.out) R)
        rw [outcomeD_arg HC.out (by rw [← HR.out]; omega) (by rw [← HR.out]; exact Nat.le_refl _)] at CO
        go_wp2_with fail
        refine CO.out.mono ?_
        rintro e W12 ⟨v12, rfl, -, hB12⟩
        have hb12 := (hB12.block w.heap.size (lt_heap HX11.out)).trans HX11.out
        have HB12 := Lib.hid (HB11.out.trans (hB12.mono HB11.out.size))
        have HX12 := Lib.hid hb12
        clear c0 c1 c2 HB11 HX11
        have c0 := cell_of (j := 0) hb12 rfl
        have c1 := cell_of (j := 1) hb12 rfl
        have c2 := cell_of (j := 2) hb12 rfl
        clear hb12
        replace H7 := Lib.hid (IsSl.below H7.out hB12)
        replace H8 := Lib.hid (IsSl.below H8.out hB12)
        clear hB12 CO c0 c1 c2 HX12
        obtain ⟨A7, d7, rfl, -, -, -⟩ := id H7.out
        obtain ⟨A8, d8, rfl, -, -, -⟩ := id H8.out
        have hla : (ofN a).length = nD d := by rw [ofN_len]; exact (outsD_ok HA.out.2.1).1
        have hlb : (ofN b).length = nD d := by rw [ofN_len]; exact (outsD_ok HBB.out.2.1).1
        have hn16 : nD d ≤ 16 := (checkB_len HC.out).2.1
        have HSA := Lib.hid (sorted_get (l := outsD d) (outs_sorted ..) HA.out.1 HBB.out.1)
        have HSB := Lib.hid (sorted_get (l := outsD d) (outs_sorted ..) HBB.out.1 HA.out.1)
        obtain ⟨n, hn⟩ : ∃ n, n = nD d := ⟨_, rfl⟩
        rw [← hn] at hla hlb hn16
        have e7 : Value.slice A7 (ofN a).length d7 = Value.slice A7 n d7 := by rw [hla]
        have e8 : Value.slice A8 (ofN b).length d8 = Value.slice A8 n d8 := by rw [hlb]
        have h7 : IsInts W12 _ (.slice A7 (ofN a).length d7) (ofN a) := H7.out
        have h8 : IsInts W12 _ (.slice A8 (ofN b).length d8) (ofN b) := H8.out
        rw [e7] at h7
        rw [e8] at h8
        replace H7 := Lib.hid h7
        replace H8 := Lib.hid h8
        rw [hla, hlb]
        clear h7 h8 e7 e8
        have HLA := Lib.hid hla
        have HLB := Lib.hid hlb
        clear hla hlb hn
        go_wp2_with fail
        go_loopw [19, 20, 103] (fun q19 q20 q103 wx => ∃ k : Nat, k ≤ n ∧ q19 = .bool false ∧ q20 = .bool true ∧ q103 = .int .i64 (k : Int) ∧ Hid (agree (ofN a) (ofN b) k) ∧ Hid (Dr W12 wx)) (fun _ _ q _ => n - (intOf q).toNat)
        case atStart => exact ⟨0, Nat.zero_le _, rfl, rfl, rfl, Lib.hid (fun j hj => absurd hj (by omega)), Lib.hid (Dr.refl _)⟩
        case round =>
          obtain ⟨k, hk, rfl, rfl, rfl, HS, HDR⟩ := hrel
          by_cases hkn : k < n
          · have hkk : (k : Int) < (n : Int) := by omega
            have hk0 : (0 : Int) ≤ (k : Int) := by omega
            obtain ⟨b1, o1, rfl, -, f1⟩ := H7.out.at_ HDR.out.below (show k < (ofN a).length by rw [HLA.out]; exact hkn)
            obtain ⟨b2, o2, rfl, -, f2⟩ := H8.out.at_ HDR.out.below (show k < (ofN b).length by rw [HLB.out]; exact hkn)
            obtain ⟨p, hp⟩ : ∃ p, p = nthI (ofN a) k := ⟨_, rfl⟩
            obtain ⟨q, hq⟩ : ∃ q, q = nthI (ofN b) k := ⟨_, rfl⟩
            rw [← hp] at f1
            rw [← hq] at f2
            have HP := Lib.hid hp
            have HQ := Lib.hid hq
            clear hp hq
            by_cases hpq : p = q
            · have hne : (p != q) = false := by simp [hpq]
              have HE := Lib.hid hpq
              clear hpq
              go_wp2_with fail
              go_quiet (fail)
              go_wp2_with fail
              go_roundw
              case rel => exact ⟨k + 1, by omega, rfl, rfl, by go_num, Lib.hid (fun j hj => by
                rcases Nat.lt_or_ge j k with h3 | h3
                · exact HS.out j h3
                · rw [show j = k by omega, ← HP.out, ← HQ.out]; exact HE.out), HDR.out.drewN _⟩
              case measure => simp [intOf]; omega
            · have hne : (p != q) = true := by simpa using hpq
              have hka : k < a.length := by rw [← ofN_len, HLA.out]; exact hkn
              have hkb : k < b.length := by rw [← ofN_len, HLB.out]; exact hkn
              have hpa : p = ((a[k] : Nat) : Int) := by rw [HP.out, nthI_ofN hka]
              have hqb : q = ((b[k] : Nat) : Int) := by rw [HQ.out, nthI_ofN hkb]
              have hag : ∀ j (h1 : j < k), a[j]'(by omega) = b[j]'(by omega) := fun j h1 => by
                have := HS.out j h1
                rw [nthI_ofN (by omega), nthI_ofN (by omega)] at this
                omega
              have hab : a[k] ≠ b[k] := fun e => hpq (by rw [hpa, hqb, e])
              have hXY : X ≠ Y := fun e => by
                have := HSA.out.1.2 e
                subst this
                exact hab rfl
              have hxy1 : ((X : Int) == (Y : Int)) = false := by rw [beq_eq_false_iff_ne]; omega
              rcases Nat.lt_or_ge X Y with hlt | hge
              · have h1 := ltL_at hka hkb hag hab (HSA.out.2 hlt)
                have hpl : p < q := by omega
                have hXl : (X : Int) < (Y : Int) := by omega
                have hXn : ¬ (X : Int) = (Y : Int) := by omega
                clear hpq hpa hqb hag hab hXY hlt h1 hka hkb
                go_wp2_with fail
                go_quiet (fail)
                go_wp2_with fail
                go_quiet (fail)
                go_wp2_with fail
                go_ret
                exact ⟨rfl, HB12.out.trans ((HDR.out.drewN _).below.mono HB12.out.size)⟩
              · have h1 := ltL_at hkb hka (fun j h1 => (hag j h1).symm) (fun e => hab e.symm) (HSB.out.2 (by omega))
                have hpl : ¬ p < q := by omega
                have hXl : ¬ (X : Int) < (Y : Int) := by omega
                have hXn : ¬ (X : Int) = (Y : Int) := by omega
                have HPL := Lib.hid hpl
                have HXL := Lib.hid (show ¬ X < Y by omega)
                clear hpq hpa hqb hag hab hXY hge h1 hka hkb
                go_wp2_with fail
                go_quiet (fail)
                go_wp2_with fail
                go_quiet (fail)
                go_wp2_with fail
                go_ret
                exact ⟨ret_bool (by rw [decide_eq_false (show ¬ p < q by have := HPL.out; omega), decide_eq_false (show ¬ X < Y by have := HXL.out; omega)]; rfl), HB12.out.trans ((HDR.out.drewN _).below.mono HB12.out.size)⟩
          · have hkk : ¬ (k : Int) < (n : Int) := by omega
            have hab : a = b := ofN_inj (eq_of_nthI (by rw [HLA.out, HLB.out]) (fun j hj => HS.out j (by rw [HLA.out] at hj; omega)))
            have hXY : X = Y := HSA.out.1.1 hab
            subst hXY
            clear hab
            go_wp2_with fail
            go_ret
            exact ⟨rfl, HB12.out.trans (HDR.out.below.mono HB12.out.size)⟩
  · rw [hL] at CL
    go_wp2_with fail
    refine CL.out.mono ?_
    rintro e W3 ⟨rfl, hB3⟩
    go_wp2_with fail
    go_ret
    exact ⟨rfl, HB2.out.trans (hB3.mono HB2.out.size)⟩
end Go.Proofs.Ytbkgkgigcohbpaa
