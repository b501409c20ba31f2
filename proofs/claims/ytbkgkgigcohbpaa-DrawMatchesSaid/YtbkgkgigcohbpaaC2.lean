import Derived.Test.YtbkgkgigcohbpaaC1
namespace Go.Proofs.Ytbkgkgigcohbpaa
open Go.RowKit

theorem quiet26 {P : Program} {f : FuncId} {args : Array Value} {w : World} {n : Nat} {v : Value}
    (h : Calls P f args (w.drewN n) fun e w' => e = .returned v ∧ w.drewN n = w') : Calls P f args (w.drewN n) fun e w'' => e = .returned v ∧ ∃ m, w'' = w.drewN m :=
  h.mono fun _ _ ⟨he, hm⟩ => ⟨he, n, hm.symm⟩
def Dr (w w' : World) : Prop := ∃ n, w' = w.drewN n
theorem Dr.refl (w : World) : Dr w w := ⟨0, rfl⟩
theorem Dr.drewN {w w' : World} (h : Dr w w') (n : Nat) : Dr w (w'.drewN n) := by obtain ⟨m, rfl⟩ := h; exact ⟨m + n, by rw [World.drewN_drewN]⟩
theorem Dr.below {w w' : World} (h : Dr w w') : Below w.heap.size w w' := by obtain ⟨n, rfl⟩ := h; exact below_drewN (Below.refl _ _) n
theorem pot_any (w : World) (M : Nat → Prop) (v : Value) (l : List Int) (h : IsInts w M v l) :
    Calls Try.prog 33 #[v] w fun e w' => e = .returned (.bool (potB l)) ∧ ∃ n, w' = w.drewN n := by
  have H := Lib.hid h
  obtain ⟨A, c, rfl, h1, h2, -⟩ := h
  go_enter Try.func33, Try.ntmps33
  go_wp2_with fail
  go_loopw [3] (fun i wr => ∃ k : Nat, k ≤ l.length ∧ i = .int .i64 k ∧ Hid (potTo l k) ∧ Hid (Dr w wr)) (fun i _ => l.length - (intOf i).toNat)
  case atStart => exact ⟨0, Nat.zero_le _, rfl, Lib.hid potTo_zero, Lib.hid (Dr.refl _)⟩
  case round =>
    obtain ⟨k, hk, rfl, HP, HD⟩ := hrel
    by_cases hlt : k < l.length
    · have CC := fun W (hB : Below w.heap.size w W) x => Lib.hid (refAt_any26 W M _ (l.take k) (IsInts.take (IsSl.below H.out hB) k (by omega)) x)
      obtain ⟨b, off, rfl, hbl, hck⟩ := H.out.at_ HD.out.below hlt
      have hlt' : (k : Int) < (l.length : Int) := by omega
      have hk0 : (0 : Int) ≤ (k : Int) := by omega
      have hkc : (k : Int) ≤ (c : Int) := by omega
      have HYES := Lib.hid (fun h => potTo_succ HP.out (k := k) h)
      have HNO := Lib.hid (fun h => potB_no (l := l) (k := k) hlt h)
      have HOK : Hid (okAt l k = (decide (0 ≤ nthI l k) && (decide (nthI l k < 192) && !(l.take k).contains (nthI l k)))) := rfl
      have HBX := Lib.hid HD.out.below
      generalize nthI l k = y at hck HOK
      by_cases y0 : y < 0
      · have HN := Lib.hid (HNO.out (by rw [HOK.out, decide_eq_false (by omega)]; rfl))
        have d0 : decide (y < 0) = true := decide_eq_true y0
        clear CC
        go_wp2_with fail
        go_quiet (fail)
        go_wp2_with fail
        go_ret
        exact ⟨ret_bool HN.out.symm, HD.out.drewN _⟩
      · have d0 : decide (y < 0) = false := decide_eq_false y0
        by_cases y1 : 192 ≤ y
        · have HN := Lib.hid (HNO.out (by rw [HOK.out, decide_eq_false (p := y < 192) (by omega)]; simp))
          have d1 : decide (192 ≤ y) = true := decide_eq_true y1
          clear CC
          go_wp2_with fail
          go_quiet (fail)
          go_wp2_with fail
          go_ret
          exact ⟨ret_bool HN.out.symm, HD.out.drewN _⟩
        · have d1 : decide (192 ≤ y) = false := decide_eq_false y1
          have CY := fun n => Lib.hid (CC (wr.drewN n) (below_drewN HBX.out n) y).out
          obtain ⟨z, hz⟩ : ∃ z, idxI (l.take k) y = z := ⟨_, rfl⟩
          have HH := idxI_has (l.take k) y
          rw [hz] at HH
          have CZ : ∀ n, Hid (Calls Try.prog 34 #[.slice (some ⟨b, off, none⟩) k c, .int .i64 y] (wr.drewN n) fun e w' => e = .returned (.int .i64 z) ∧ wr.drewN n = w') := fun n => by
            have := (CY n).out
            rw [hz] at this
            exact this
          clear CC CY hz
          by_cases hz0 : 0 ≤ z
          · have HN := Lib.hid (HNO.out (by rw [HOK.out, ← HH, decide_eq_true hz0]; simp))
            have d2 : decide (0 ≤ z) = true := decide_eq_true hz0
            clear HH
            go_wp2_with fail
            go_quiet ((go_at_call 34; exact quiet26 (CZ _).out))
            go_wp2_with fail
            go_ret
            exact ⟨ret_bool HN.out.symm, HD.out.drewN _⟩
          · have HN := Lib.hid (HYES.out (by rw [HOK.out, ← HH, decide_eq_true (by omega), decide_eq_true (by omega), decide_eq_false hz0]; rfl))
            have d2 : decide (0 ≤ z) = false := decide_eq_false hz0
            clear HH
            go_wp2_with fail
            go_quiet ((go_at_call 34; exact quiet26 (CZ _).out))
            go_wp2_with fail
            go_roundw
            case rel => exact ⟨k + 1, by omega, by go_num, HN, Lib.hid (HD.out.drewN _)⟩
            case measure => simp [intOf]; omega
    · have hnl : ¬ (k : Int) < (l.length : Int) := by omega
      obtain rfl : k = l.length := by omega
      have HA := Lib.hid (potB_all HP.out)
      by_cases g1 : (1 : Int) ≤ (l.length : Int)
      · go_wp2_with fail
        go_ret
        exact ⟨Eq.trans (show _ = Ending.returned (.bool (decide ((l.length : Int) ≤ 16))) from rfl) (ret_bool (by rw [HA.out, decide_eq_true (show 0 < l.length by omega), Bool.true_and]; exact decide_eq_decide.2 (by omega))), HD.out⟩
      · go_wp2_with fail
        go_ret
        exact ⟨Eq.trans (show _ = Ending.returned (.bool false) from rfl) (ret_bool (by rw [HA.out, decide_eq_false (show ¬ 0 < l.length by omega), Bool.false_and])), HD.out⟩
/-- a draw in memory -/
def IsDraw (w : World) (M : Nat → Prop) (v : Value) (d : DrawD) : Prop := ∃ v1 v2 v3, v = .agg #[v1, v2, v3] ∧ IsInts w M v1 d.first ∧ IsInts w M v2 d.second ∧ IsEdges w M v3 d.forb
theorem IsDraw.below {w w' : World} {M : Nat → Prop} {v : Value} {d : DrawD} (h : IsDraw w M v d) (hb : Below w.heap.size w w') : IsDraw w' M v d := by
  obtain ⟨v1, v2, v3, e, h1, h2, h3⟩ := h
  exact ⟨v1, v2, v3, e, IsSl.below h1 hb, IsSl.below h2 hb, IsSl.below h3 hb⟩
theorem checkD_eq (d : DrawD) {a b e f : Bool} (h1 : potB d.first = a) (h2 : potB d.second = b) (h3 : decide (d.first.length = d.second.length) = e) (h4 : decide (d.forb.length ≤ 256) = f) : checkB d = ((a && (b && (e && f))) && d.forb.all (hasF d)) := by
  unfold checkB; rw [h1, h2, h3, h4]
set_option maxHeartbeats 2000000 in
theorem check_any (w : World) (M : Nat → Prop) (v : Value) (d : DrawD) (h : IsDraw w M v d) :
    Calls Try.prog 15 #[v] w fun e w' => e = .returned (.int .i64 (checkD d)) ∧ Below w.heap.size w w' := by
  obtain ⟨v1, v2, v3, rfl, hi1, hi2, hi3⟩ := h
  have C1 := fun W (hB : Below w.heap.size w W) => Lib.hid (isPot_any W M v1 d.first (IsSl.below hi1 hB))
  have C2 := fun W (hB : Below w.heap.size w W) => Lib.hid (isPot_any W M v2 d.second (IsSl.below hi2 hB))
  have C3 := fun W (hB : Below w.heap.size w W) x => Lib.hid (contains_any W M v1 d.first (IsSl.below hi1 hB) x)
  have C4 := fun W (hB : Below w.heap.size w W) x => Lib.hid (contains_any W M v2 d.second (IsSl.below hi2 hB) x)
  have H3 := Lib.hid hi3
  obtain ⟨A1, c1, rfl, -, -, -⟩ := hi1
  obtain ⟨A2, c2, rfl, -, -, -⟩ := hi2
  obtain ⟨A3, c3, rfl, -, -, -⟩ := hi3
  obtain ⟨pa, hpa⟩ : ∃ x, potB d.first = x := ⟨_, rfl⟩
  obtain ⟨pb, hpb⟩ : ∃ x, potB d.second = x := ⟨_, rfl⟩
  obtain ⟨pe, hpe⟩ : ∃ x, decide (d.first.length = d.second.length) = x := ⟨_, rfl⟩
  obtain ⟨pf, hpf⟩ : ∃ x, decide (d.forb.length ≤ 256) = x := ⟨_, rfl⟩
  have HCH := Lib.hid (checkD_eq d hpa hpb hpe hpf)
  have HCD : Hid (checkD d = if checkB d then 0 else 260) := rfl
  rw [hpa] at C1
  rw [hpb] at C2
  have e3 : ((d.first.length : Int) != (d.second.length : Int)) = !pe := by rw [← hpe, Bool.eq_iff_iff]; simp; omega
  have e4 : decide ((256 : Int) < (d.forb.length : Int)) = !pf := by rw [← hpf, Bool.eq_iff_iff]; simp; omega
  have HF : Hid (pf = true → d.forb.length ≤ 256) := by show _ → _; rw [← hpf]; exact of_decide_eq_true
  clear hpa hpb hpe hpf
  cases pa with
  | false =>
    have HN : Hid (checkD d = 260) := by show _ = _; rw [HCD.out, HCH.out]; rfl
    go_enter Try.func15, Try.ntmps15
    go_wp2_with fail
    refine nameW fun W1 hW1 => ?_
    have hB1 : Below w.heap.size w W1 := by rw [hW1.out]; exact (Below.refl w.heap.size w).alloc (Nat.le_refl _) _
    refine (C1 _ hB1).out.mono ?_
    rintro e w' ⟨rfl, rfl⟩
    clear hW1
    go_wp2_with fail
    go_ret
    exact ⟨ret_int HN.out.symm, hB1⟩
  | true =>
    cases pb with
    | false =>
      have HN : Hid (checkD d = 260) := by show _ = _; rw [HCD.out, HCH.out]; rfl
      go_enter Try.func15, Try.ntmps15
      go_wp2_with fail
      refine nameW fun W1 hW1 => ?_
      have hB1 : Below w.heap.size w W1 := by rw [hW1.out]; exact (Below.refl w.heap.size w).alloc (Nat.le_refl _) _
      have k0 : W1.heap[w.heap.size]? = some (.cells #[.slice A1 d.first.length c1, .slice A2 d.second.length c2, .slice A3 d.forb.length c3] 25 (0, 0)) := (by rw [hW1.out]; simp only [heap_alloc_if]; rw [if_pos trivial])
      have e1 := cell_of (j := 1) k0 rfl
      refine (C1 _ hB1).out.mono ?_
      rintro e w' ⟨rfl, rfl⟩
      clear hW1 k0
      go_wp2_with fail
      refine (C2 _ hB1).out.mono ?_
      rintro e w' ⟨rfl, rfl⟩
      go_wp2_with fail
      go_ret
      exact ⟨ret_int HN.out.symm, hB1⟩
    | true =>
      go_enter Try.func15, Try.ntmps15
      go_wp2_with fail
      refine nameW fun W1 hW1 => ?_
      have hB1 : Below w.heap.size w W1 := by rw [hW1.out]; exact (Below.refl w.heap.size w).alloc (Nat.le_refl _) _
      have k0 : W1.heap[w.heap.size]? = some (.cells #[.slice A1 d.first.length c1, .slice A2 d.second.length c2, .slice A3 d.forb.length c3] 25 (0, 0)) := (by rw [hW1.out]; simp only [heap_alloc_if]; rw [if_pos trivial])
      have e0 := cell_of (j := 0) k0 rfl
      have e1 := cell_of (j := 1) k0 rfl
      have e2 := cell_of (j := 2) k0 rfl
      have HK0 := Lib.hid k0
      have HB1 := Lib.hid hB1
      refine (C1 _ hB1).out.mono ?_
      rintro e w' ⟨rfl, rfl⟩
      clear hW1 k0
      go_wp2_with fail
      refine (C2 _ hB1).out.mono ?_
      rintro e w' ⟨rfl, rfl⟩
      clear hB1
      cases pe with
      | false =>
        have HN : Hid (checkD d = 260) := by show _ = _; rw [HCD.out, HCH.out]; rfl
        go_wp2_with fail
        go_ret
        exact ⟨ret_int HN.out.symm, HB1.out⟩
      | true =>
        cases pf with
        | false =>
          have HN : Hid (checkD d = 260) := by show _ = _; rw [HCD.out, HCH.out]; rfl
          go_wp2_with fail
          go_ret
          exact ⟨ret_int HN.out.symm, HB1.out⟩
        | true =>
          have h256 := HF.out rfl
          go_wp2_with fail
          have hl1 := lt_heap HK0.out
          clear e0 e1 e2 e3 e4
          go_loopw [33] (fun i wr => ∃ k : Nat, k ≤ d.forb.length ∧ i = .int .i64 k ∧ Hid (upTo (hasF d) d.forb k) ∧ Hid (Below W1.heap.size W1 wr)) (fun i _ => d.forb.length - (intOf i).toNat)
          case atStart => exact ⟨0, Nat.zero_le _, rfl, Lib.hid upTo_zero, Lib.hid (Below.refl _ _)⟩
          case round =>
            obtain ⟨k, hk, rfl, HU, HB⟩ := hrel
            by_cases hlt : k < d.forb.length
            · obtain ⟨b, off, rfl, hbl, hck, hck1⟩ := H3.out.at_ (HB1.out.trans (HB.out.mono HB1.out.size)) hlt
              have hlt' : (k : Int) < (d.forb.length : Int) := by omega
              have hKr := (HB.out.block w.heap.size hl1).trans HK0.out
              have e0 := cell_of (j := 0) hKr rfl
              have e1 := cell_of (j := 1) hKr rfl
              have hszr := HB.out.size
              have hsz1 := HB1.out.size
              have hlr : w.heap.size < wr.heap.size := by omega
              have hbr : b < wr.heap.size := by omega
              have HYES := Lib.hid (fun h => upTo_succ HU.out hlt h)
              have HNO := Lib.hid (fun h => not_all (p := hasF d) hlt h)
              generalize d.forb[k] = f at hck hck1 HYES HNO
              obtain ⟨X, Y⟩ := f
              dsimp only at hck hck1
              have HOK : Hid (hasF d (X, Y) = (d.first.contains X && d.second.contains Y)) := rfl
              have CX := fun W hB => C3 W hB X
              have CY := fun W hB => C4 W hB Y
              generalize d.first.contains X = bx at CX HOK
              generalize d.second.contains Y = by' at CY HOK
              clear hKr
              cases bx with
              | false =>
                have HN : Hid (checkD d = 260) := by show _ = _; rw [HCD.out, HCH.out, HNO.out (by rw [HOK.out]; rfl)]; rfl
                go_wp2_with fail
                refine nameW fun W2 hW2 => ?_
                have hB2 : Below W1.heap.size W1 W2 := by rw [hW2.out]; exact HB.out.alloc hszr _
                refine (CX _ (HB1.out.trans (hB2.mono HB1.out.size))).out.mono ?_
                rintro e w' ⟨rfl, rfl⟩
                clear hW2
                go_wp2_with fail
                go_ret
                exact ⟨ret_int HN.out.symm, HB1.out.trans (hB2.mono HB1.out.size)⟩
              | true =>
                go_wp2_with fail
                refine nameW fun W2 hW2 => ?_
                have hB2 : Below W1.heap.size W1 W2 := by rw [hW2.out]; exact HB.out.alloc hszr _
                have k2 : W2.heap[wr.heap.size]? = some (.cells #[.int .i64 X, .int .i64 Y] 47 (0, 0)) := (by rw [hW2.out]; simp only [heap_alloc_if]; rw [if_pos trivial])
                have hK2 := (hB2.block w.heap.size hl1).trans HK0.out
                have f1 := cell_of (j := 1) hK2 rfl
                have f2 := cell_of (j := 1) k2 rfl
                have HB2 := Lib.hid hB2
                refine (CX _ (HB1.out.trans (hB2.mono HB1.out.size))).out.mono ?_
                rintro e w' ⟨rfl, rfl⟩
                clear hW2 k2 hK2 e0 e1 hck hck1 hB2
                go_wp2_with fail
                refine (CY _ (HB1.out.trans (HB2.out.mono HB1.out.size))).out.mono ?_
                rintro e w' ⟨rfl, rfl⟩
                cases by' with
                | false =>
                  have HN : Hid (checkD d = 260) := by show _ = _; rw [HCD.out, HCH.out, HNO.out (by rw [HOK.out]; rfl)]; rfl
                  go_wp2_with fail
                  go_ret
                  exact ⟨ret_int HN.out.symm, HB1.out.trans (HB2.out.mono HB1.out.size)⟩
                | true =>
                  have HN := Lib.hid (HYES.out (by rw [HOK.out]; rfl))
                  go_wp2_with fail
                  go_roundw
                  case rel => exact ⟨k + 1, by omega, by go_num, HN, HB2⟩
                  case measure => simp [intOf]; omega
            · have hnl : ¬ (k : Int) < (d.forb.length : Int) := by omega
              obtain rfl : k = d.forb.length := by omega
              have HN : Hid (checkD d = 0) := by show _ = _; rw [HCD.out, HCH.out, upTo_all HU.out]; rfl
              go_wp2_with fail
              go_ret
              exact ⟨ret_int HN.out.symm, HB1.out.trans (HB.out.mono HB1.out.size)⟩
theorem has_neg (l : List Int) (x : Int) : decide (idxI l x < 0) = !l.contains x := by
  rw [← idxI_has, Bool.eq_iff_iff]; simp
set_option maxHeartbeats 2000000 in
theorem refCheck_any (w : World) (M : Nat → Prop) (v : Value) (d : DrawD) (h : IsDraw w M v d) :
    Calls Try.prog 16 #[v] w fun e w' => e = .returned (.int .i64 (checkD d)) ∧ Below w.heap.size w w' := by
  obtain ⟨v1, v2, v3, rfl, hi1, hi2, hi3⟩ := h
  have C1 := fun W (hB : Below w.heap.size w W) => Lib.hid (pot_any W M v1 d.first (IsSl.below hi1 hB))
  have C2 := fun W (hB : Below w.heap.size w W) => Lib.hid (pot_any W M v2 d.second (IsSl.below hi2 hB))
  have C3 := fun W (hB : Below w.heap.size w W) x => Lib.hid (refAt_any26 W M v1 d.first (IsSl.below hi1 hB) x)
  have C4 := fun W (hB : Below w.heap.size w W) x => Lib.hid (refAt_any26 W M v2 d.second (IsSl.below hi2 hB) x)
  have H3 := Lib.hid hi3
  obtain ⟨A1, c1, rfl, -, -, -⟩ := hi1
  obtain ⟨A2, c2, rfl, -, -, -⟩ := hi2
  obtain ⟨A3, c3, rfl, -, -, -⟩ := hi3
  obtain ⟨pa, hpa⟩ : ∃ x, potB d.first = x := ⟨_, rfl⟩
  obtain ⟨pb, hpb⟩ : ∃ x, potB d.second = x := ⟨_, rfl⟩
  obtain ⟨pe, hpe⟩ : ∃ x, decide (d.first.length = d.second.length) = x := ⟨_, rfl⟩
  obtain ⟨pf, hpf⟩ : ∃ x, decide (d.forb.length ≤ 256) = x := ⟨_, rfl⟩
  have HCH := Lib.hid (checkD_eq d hpa hpb hpe hpf)
  have HCD : Hid (checkD d = if checkB d then 0 else 260) := rfl
  rw [hpa] at C1
  rw [hpb] at C2
  have e3 : ((d.first.length : Int) != (d.second.length : Int)) = !pe := by rw [← hpe, Bool.eq_iff_iff]; simp; omega
  have e4 : decide ((256 : Int) < (d.forb.length : Int)) = !pf := by rw [← hpf, Bool.eq_iff_iff]; simp; omega
  have HF : Hid (pf = true → d.forb.length ≤ 256) := by show _ → _; rw [← hpf]; exact of_decide_eq_true
  clear hpa hpb hpe hpf
  cases pa with
  | false =>
    have HN : Hid (checkD d = 260) := by show _ = _; rw [HCD.out, HCH.out]; rfl
    go_enter Try.func16, Try.ntmps16
    go_wp2_with fail
    refine nameW fun W1 hW1 => ?_
    have hB1 : Below w.heap.size w W1 := by rw [hW1.out]; exact (Below.refl w.heap.size w).alloc (Nat.le_refl _) _
    refine (C1 _ hB1).out.mono ?_
    rintro e w' ⟨rfl, n, rfl⟩
    clear hW1
    go_wp2_with fail
    go_ret
    exact ⟨ret_int HN.out.symm, below_drewN hB1 _⟩
  | true =>
    go_enter Try.func16, Try.ntmps16
    go_wp2_with fail
    refine nameW fun W1 hW1 => ?_
    have hB1 : Below w.heap.size w W1 := by rw [hW1.out]; exact (Below.refl w.heap.size w).alloc (Nat.le_refl _) _
    have k0 : W1.heap[w.heap.size]? = some (.cells #[.slice A1 d.first.length c1, .slice A2 d.second.length c2, .slice A3 d.forb.length c3] 25 (0, 0)) := (by rw [hW1.out]; simp only [heap_alloc_if]; rw [if_pos trivial])
    have e0 := cell_of (j := 0) k0 rfl
    have e1 := cell_of (j := 1) k0 rfl
    have e2 := cell_of (j := 2) k0 rfl
    have HK0 := Lib.hid k0
    have HB1 := Lib.hid hB1
    refine (C1 _ hB1).out.mono ?_
    rintro e w' ⟨rfl, n, rfl⟩
    clear hW1 k0
    go_wp2_with fail
    refine (C2 _ (below_drewN hB1 _)).out.mono ?_
    rintro e w' ⟨rfl, n2, rfl⟩
    clear hB1
    cases pb with
    | false =>
      have HN : Hid (checkD d = 260) := by show _ = _; rw [HCD.out, HCH.out]; rfl
      go_wp2_with fail
      go_ret
      exact ⟨ret_int HN.out.symm, by repeat (first | exact HB1.out | refine below_drewN ?_ _)⟩
    | true =>
      cases pe with
      | false =>
        have HN : Hid (checkD d = 260) := by show _ = _; rw [HCD.out, HCH.out]; rfl
        go_wp2_with fail
        go_ret
        exact ⟨ret_int HN.out.symm, by repeat (first | exact HB1.out | refine below_drewN ?_ _)⟩
      | true =>
        cases pf with
        | false =>
          have HN : Hid (checkD d = 260) := by show _ = _; rw [HCD.out, HCH.out]; rfl
          go_wp2_with fail
          go_ret
          exact ⟨ret_int HN.out.symm, by repeat (first | exact HB1.out | refine below_drewN ?_ _)⟩
        | true =>
          have h256 := HF.out rfl
          go_wp2_with fail
          have hl1 := lt_heap HK0.out
          clear e0 e1 e2 e3 e4
          go_loopw [3] (fun i wr => ∃ k : Nat, k ≤ d.forb.length ∧ i = .int .i64 k ∧ Hid (upTo (hasF d) d.forb k) ∧ Hid (Dr W1 wr)) (fun i _ => d.forb.length - (intOf i).toNat)
          case atStart => exact ⟨0, Nat.zero_le _, rfl, Lib.hid upTo_zero, Lib.hid ((Dr.refl _).drewN _)⟩
          case round =>
            obtain ⟨k, hk, rfl, HU, HD⟩ := hrel
            have hbx := HD.out.below
            have hKr := (hbx.block w.heap.size hl1).trans HK0.out
            have e0 := cell_of (j := 0) hKr rfl
            have e1 := cell_of (j := 1) hKr rfl
            have e2 := cell_of (j := 2) hKr rfl
            have HBX := Lib.hid (HB1.out.trans (hbx.mono HB1.out.size))
            by_cases hlt : k < d.forb.length
            · obtain ⟨b, off, rfl, hbl, hck, hck1⟩ := H3.out.at_ HBX.out hlt
              have hlt' : (k : Int) < (d.forb.length : Int) := by omega
              have hk0 : (0 : Int) ≤ (k : Int) := by omega
              have HYES := Lib.hid (fun h => upTo_succ HU.out hlt h)
              have HNO := Lib.hid (fun h => not_all (p := hasF d) hlt h)
              generalize d.forb[k] = f at hck hck1 HYES HNO
              obtain ⟨X, Y⟩ := f
              dsimp only at hck hck1
              have HOK : Hid (hasF d (X, Y) = (d.first.contains X && d.second.contains Y)) := rfl
              have CX := fun n => Lib.hid (C3 (wr.drewN n) (below_drewN HBX.out n) X).out
              have CY := fun n => Lib.hid (C4 (wr.drewN n) (below_drewN HBX.out n) Y).out
              have d1 := has_neg d.first X
              have d2 := has_neg d.second Y
              generalize d.first.contains X = bx at d1 HOK
              generalize d.second.contains Y = by' at d2 HOK
              generalize idxI d.first X = zx at d1 CX
              generalize idxI d.second Y = zy at d2 CY
              clear hKr hbx
              cases bx with
              | false =>
                have HN : Hid (checkD d = 260) := by show _ = _; rw [HCD.out, HCH.out, HNO.out (by rw [HOK.out]; rfl)]; rfl
                have d1' : decide (zx < 0) = true := d1
                clear d1 d2
                go_wp2_with fail
                go_quiet ((go_at_call 34; (first | with_reducible exact quiet26 (CX _).out | with_reducible exact quiet26 (CY _).out)))
                go_wp2_with fail
                go_ret
                exact ⟨ret_int HN.out.symm, below_drewN HBX.out _⟩
              | true =>
                have d1' : decide (zx < 0) = false := d1
                clear d1
                cases by' with
                | false =>
                  have HN : Hid (checkD d = 260) := by show _ = _; rw [HCD.out, HCH.out, HNO.out (by rw [HOK.out]; rfl)]; rfl
                  have d2' : decide (zy < 0) = true := d2
                  clear d2
                  go_wp2_with fail
                  go_quiet ((go_at_call 34; (first | with_reducible exact quiet26 (CX _).out | with_reducible exact quiet26 (CY _).out)))
                  go_wp2_with fail
                  go_ret
                  exact ⟨ret_int HN.out.symm, below_drewN HBX.out _⟩
                | true =>
                  have HN := Lib.hid (HYES.out (by rw [HOK.out]; rfl))
                  have d2' : decide (zy < 0) = false := d2
                  clear d2
                  go_wp2_with fail
                  go_quiet ((go_at_call 34; (first | with_reducible exact quiet26 (CX _).out | with_reducible exact quiet26 (CY _).out)))
                  go_wp2_with fail
                  go_roundw
                  case rel => exact ⟨k + 1, by omega, by go_num, HN, Lib.hid (HD.out.drewN _)⟩
                  case measure => simp [intOf]; omega
            · have hnl : ¬ (k : Int) < (d.forb.length : Int) := by omega
              obtain rfl : k = d.forb.length := by omega
              have HN : Hid (checkD d = 0) := by show _ = _; rw [HCD.out, HCH.out, upTo_all HU.out]; rfl
              go_wp2_with fail
              go_ret
              exact ⟨ret_int HN.out.symm, HBX.out⟩
end Go.Proofs.Ytbkgkgigcohbpaa
