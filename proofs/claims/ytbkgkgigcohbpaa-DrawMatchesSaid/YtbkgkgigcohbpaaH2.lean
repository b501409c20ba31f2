import Derived.Test.YtbkgkgigcohbpaaH1
namespace Go.Proofs.Ytbkgkgigcohbpaa
open Go.RowKit
def nthN (xs : List Nat) (j : Nat) : Nat := xs.getD j 0
def nthR (rows : List (List Nat)) (r : Nat) : List Nat := rows.getD r []
theorem IsNs.at_ {w wr : World} {M : Nat → Prop} {A : Option Addr} {n c k : Nat} {xs : List Nat} (h : IsNs w M (.slice A n c) xs) (hb : Below w.heap.size w wr) (hk : k < xs.length) :
    ∃ b off, A = some ⟨b, off, none⟩ ∧ wr.cell? ⟨b, off + k, none⟩ = some (.int .u64 (nthN xs k : Int)) := by
  obtain ⟨A', c', e, _, _, h3⟩ := h
  cases e
  obtain ⟨b, off, e, _, _, hc⟩ := h3.at1 hb hk
  exact ⟨b, off, e, hc⟩
theorem IsTab.at_ {w wr : World} {M : Nat → Prop} {A : Option Addr} {n c r : Nat} {rows : List (List Nat)} (h : IsTab w M (.slice A n c) rows) (hb : Below w.heap.size w wr) (hr : r < rows.length) :
    ∃ b off A' c', A = some ⟨b, off, none⟩ ∧ wr.cell? ⟨b, off + r, none⟩ = some (.slice A' (nthR rows r).length c') ∧ IsNs w M (.slice A' (nthR rows r).length c') (nthR rows r) := by
  obtain ⟨S, ⟨A', c', e, _, _, h3⟩, h4⟩ := h
  cases e
  obtain ⟨b, off, e, _, _, hc⟩ := h3.at1 hb hr
  have h5 := h4 r hr
  have h6 : IsNs w M (S r) (nthR rows r) := h5
  obtain ⟨A2, c2, e2, q1, q2, q3⟩ := h5
  have e2 : S r = .slice A2 (nthR rows r).length c2 := e2
  rw [e2] at hc h6
  exact ⟨b, off, A2, c2, e, hc, h6⟩
theorem eq_of_nthN {a b : List Nat} (hl : a.length = b.length) (h : ∀ j, j < a.length → nthN a j = nthN b j) : a = b := by
  refine List.ext_getElem hl fun j h1 h2 => ?_
  have := h j h1
  unfold nthN at this
  rwa [List.getD_eq_getElem?_getD, List.getD_eq_getElem?_getD, List.getElem?_eq_getElem h1, List.getElem?_eq_getElem h2] at this
theorem eq_of_nthR {a b : List (List Nat)} (hl : a.length = b.length) (h : ∀ j, j < a.length → nthR a j = nthR b j) : a = b := by
  refine List.ext_getElem hl fun j h1 h2 => ?_
  have := h j h1
  unfold nthR at this
  rwa [List.getD_eq_getElem?_getD, List.getD_eq_getElem?_getD, List.getElem?_eq_getElem h1, List.getElem?_eq_getElem h2] at this
theorem IsTab.sl {w : World} {M : Nat → Prop} {v : Value} {rows : List (List Nat)} (h : IsTab w M v rows) : ∃ A c, v = .slice A rows.length c ∧ rows.length ≤ 9223372036854775807 := by
  obtain ⟨S, ⟨A', c', e, l1, l2, _⟩, h4⟩ := h
  exact ⟨A', c', e, Nat.le_trans l1 l2⟩
theorem IsNs.le {w : World} {M : Nat → Prop} {v : Value} {xs : List Nat} (h : IsNs w M v xs) : xs.length ≤ 9223372036854775807 := by
  obtain ⟨A', c', e, l1, l2, _⟩ := h
  exact Nat.le_trans l1 l2
set_option maxHeartbeats 1000000 in
theorem sameCh_any (w : World) (M1 M2 : Nat → Prop) (v1 v2 : Value) (a b : List (List Nat)) (h1 : IsTab w M1 v1 a) (h2 : IsTab w M2 v2 b) :
    Calls Try.prog 17 #[v1, v2] w fun e w' => e = .returned (.bool (decide (a = b))) ∧ Dr w w' := by
  have H1 := Lib.hid h1
  have H2 := Lib.hid h2
  obtain ⟨A1, c1, rfl, hml⟩ := h1.sl
  obtain ⟨A2, c2, rfl, -⟩ := h2.sl
  clear h1 h2
  by_cases hl : a.length = b.length
  · obtain ⟨n, hn⟩ : ∃ n, n = a.length := ⟨_, rfl⟩
    have hm : b.length = n := by omega
    rw [← hn] at H1 hml
    rw [hm] at H2
    rw [hm, ← hn]
    have HNA := Lib.hid hn
    have HNB := Lib.hid hm
    clear hn hm hl
    go_enter Try.func17, Try.ntmps17
    go_wp2_with fail
    go_loopw [5] (fun q wr => ∃ k : Nat, k ≤ n ∧ q = .int .i64 (k : Int) ∧ Hid (∀ j, j < k → nthR a j = nthR b j) ∧ Hid (Dr w wr)) (fun q _ => n - (intOf q).toNat)
    case atStart => exact ⟨0, Nat.zero_le _, rfl, Lib.hid (fun j hj => absurd hj (by omega)), Lib.hid (Dr.refl _)⟩
    case round =>
      obtain ⟨k, hk, rfl, HS, HDR⟩ := hrel
      by_cases hlt : k < n
      · obtain ⟨b1, o1, X1, d1, rfl, f1, R1⟩ := H1.out.at_ HDR.out.below (show k < a.length by rw [← HNA.out]; exact hlt)
        obtain ⟨b2, o2, X2, d2, rfl, f2, R2⟩ := H2.out.at_ HDR.out.below (show k < b.length by rw [HNB.out]; exact hlt)
        have hkk : (k : Int) < (n : Int) := by omega
        have hk0 : (0 : Int) ≤ (k : Int) := by omega
        obtain ⟨p, hp⟩ : ∃ p, p = nthR a k := ⟨_, rfl⟩
        obtain ⟨q, hq⟩ : ∃ q, q = nthR b k := ⟨_, rfl⟩
        rw [← hp] at f1 R1
        rw [← hq] at f2 R2
        have HP := Lib.hid hp
        have HQ := Lib.hid hq
        have hmx := R1.le
        have HR1 := Lib.hid R1
        have HR2 := Lib.hid R2
        clear hp hq R1 R2
        by_cases hpq : p.length = q.length
        · have hne : ((p.length : Int) != (q.length : Int)) = false := by simp; omega
          obtain ⟨m, hm⟩ : ∃ m, m = p.length := ⟨_, rfl⟩
          have hm2 : q.length = m := by omega
          rw [← hm] at f1 HR1 hne hpq hmx
          rw [hm2] at f2 HR2 hne
          have HM1 := Lib.hid hm
          have HM2 := Lib.hid hm2
          clear hm hm2 hpq
          go_wp2_with fail
          go_quiet (fail)
          have HDN := Lib.hid (HDR.out.drewN nq)
          go_wp2_with fail
          go_loopw [6] (fun q6 wx => ∃ j : Nat, j ≤ m ∧ q6 = .int .i64 (j : Int) ∧ Hid (∀ i, i < j → nthN p i = nthN q i) ∧ Hid (Dr w wx)) (fun q6 _ => m - (intOf q6).toNat)
          case atStart => exact ⟨0, Nat.zero_le _, rfl, Lib.hid (fun j hj => absurd hj (by omega)), HDN⟩
          case round =>
            obtain ⟨j, hj, rfl, HJ, HDX⟩ := hrel
            clear f1 f2 HDN
            obtain ⟨_, _, Y1, z1, e1, g1, R1⟩ := H1.out.at_ HDX.out.below (show k < a.length by rw [← HNA.out]; exact hlt)
            cases e1
            obtain ⟨_, _, Y2, z2, e2, g2, R2⟩ := H2.out.at_ HDX.out.below (show k < b.length by rw [HNB.out]; exact hlt)
            cases e2
            rw [← HP.out, ← HM1.out] at g1 R1
            rw [← HQ.out, HM2.out] at g2 R2
            by_cases hjm : j < m
            · obtain ⟨b3, o3, rfl, g3⟩ := IsNs.at_ R1 HDX.out.below (show j < p.length by rw [← HM1.out]; exact hjm)
              obtain ⟨b4, o4, rfl, g4⟩ := IsNs.at_ R2 HDX.out.below (show j < q.length by rw [HM2.out]; exact hjm)
              have hjj : (j : Int) < (m : Int) := by omega
              have hj0 : (0 : Int) ≤ (j : Int) := by omega
              obtain ⟨x, hx⟩ : ∃ x, x = nthN p j := ⟨_, rfl⟩
              obtain ⟨y, hy⟩ : ∃ y, y = nthN q j := ⟨_, rfl⟩
              rw [← hx] at g3
              rw [← hy] at g4
              have HX := Lib.hid hx
              have HY := Lib.hid hy
              clear hx hy R1 R2 HR1 HR2
              by_cases hxy : x = y
              · have hnx : ((x : Int) != (y : Int)) = false := by simp [hxy]
                have HE := Lib.hid hxy
                clear hxy
                go_wp2_with fail
                go_quiet (fail)
                go_wp2_with fail
                go_roundw
                case rel => exact ⟨j + 1, by omega, by go_num, Lib.hid (fun i hi => by
                  rcases Nat.lt_or_ge i j with h3 | h3
                  · exact HJ.out i h3
                  · rw [show i = j by omega, ← HX.out, ← HY.out]; exact HE.out), HDX.out.drewN _⟩
                case measure => simp [intOf]; omega
              · have hnx : ((x : Int) != (y : Int)) = true := by simp; omega
                have HN : Hid (decide (a = b) = false) := by
                  refine decide_eq_false fun e => hxy ?_
                  rw [HX.out, HY.out, HP.out, HQ.out, e]
                clear hxy
                go_wp2_with fail
                go_quiet (fail)
                go_wp2_with fail
                go_ret
                exact ⟨ret_bool HN.out.symm, HDX.out.drewN _⟩
            · have hjj : ¬ (j : Int) < (m : Int) := by omega
              have HE : Hid (nthR a k = nthR b k) := by
                show nthR a k = nthR b k
                rw [← HP.out, ← HQ.out]
                exact eq_of_nthN (by rw [HM2.out, HM1.out]) (fun i hi => HJ.out i (by rw [← HM1.out] at hi; omega))
              go_wp2_with fail
              go_roundw
              case rel => exact ⟨k + 1, by omega, by go_num, Lib.hid (fun i hi => by
                rcases Nat.lt_or_ge i k with h3 | h3
                · exact HS.out i h3
                · rw [show i = k by omega]; exact HE.out), HDX⟩
              case measure => simp [intOf]; omega
        · have hne : ((p.length : Int) != (q.length : Int)) = true := by simp; omega
          have HN : Hid (decide (a = b) = false) := by
            refine decide_eq_false fun e => hpq ?_
            rw [HP.out, HQ.out, e]
          clear hpq
          go_wp2_with fail
          go_quiet (fail)
          go_wp2_with fail
          go_ret
          exact ⟨ret_bool HN.out.symm, HDR.out.drewN _⟩
      · have hkk : ¬ (k : Int) < (n : Int) := by omega
        have HN : Hid (decide (a = b) = true) := decide_eq_true (eq_of_nthR (by rw [HNB.out, HNA.out]) (fun j hj => HS.out j (by rw [← HNA.out] at hj; omega)))
        go_wp2_with fail
        go_ret
        exact ⟨ret_bool HN.out.symm, HDR.out⟩
  · have hlb : ((a.length : Int) != (b.length : Int)) = true := by simp; omega
    have hlc : ¬ (a.length : Int) = (b.length : Int) := by omega
    have HN : Hid (decide (a = b) = false) := decide_eq_false fun e => hl (by rw [e])
    clear hl
    go_enter Try.func17, Try.ntmps17
    go_wp2_with fail
    go_ret
    exact ⟨ret_bool HN.out.symm, Dr.refl _⟩
end Go.Proofs.Ytbkgkgigcohbpaa
