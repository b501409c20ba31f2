import Derived.Test.YtpcodholllaceaaE9
namespace Go.Proofs.Ytpcodholllaceaa
open Go.RowKit Go.Shelf

attribute [local go_sem] Oper.semAt_some

/-- the value after the coefficients of pre -/
def horI (xs : List Nat) (x : Nat) (pre : List Nat) : Nat := pre.foldl (fun y j => (y * x % 1152921504606845789 + nth xs j) % 1152921504606845789) 0
theorem horI_snoc (xs : List Nat) (x : Nat) (pre : List Nat) (j : Nat) : horI xs x (pre ++ [j]) = (horI xs x pre * x % 1152921504606845789 + nth xs j) % 1152921504606845789 := by
  unfold horI; rw [List.foldl_append]; rfl
theorem horI_came (xs : List Nat) (x : Nat) : ∀ d q, q + d = xs.length → horI xs x (came xs.length q) = hor (xs.drop q) x
  | 0, q, h => by
    obtain rfl : q = xs.length := by omega
    rw [came_start, List.drop_length]; rfl
  | d + 1, q, h => by
    have hq : q < xs.length := by omega
    rw [came_succ hq, horI_snoc, horI_came xs x d (q + 1) (by omega), hor_drop hq]
    unfold nth
    rw [List.getD_eq_getElem?_getD, List.getElem?_eq_getElem hq]
    rfl
theorem horI_lt (xs : List Nat) (x : Nat) (pre : List Nat) : horI xs x pre < 1152921504606845789 := by
  rcases List.eq_nil_or_concat pre with rfl | ⟨l, a, rfl⟩
  · exact (by decide : (0 : Nat) < 1152921504606845789)
  · rw [List.concat_eq_append, horI_snoc]; exact Nat.mod_lt _ (by decide)
theorem getD_ltQ {xs : List Nat} (h : ∀ c ∈ xs, c < 1152921504606845789) (j : Nat) : nth xs j < 1152921504606845789 := by
  unfold nth
  rw [List.getD_eq_getElem?_getD]
  rcases Nat.lt_or_ge j xs.length with hj | hj
  · rw [List.getElem?_eq_getElem hj]; exact h _ (List.getElem_mem hj)
  · rw [List.getElem?_eq_none hj]; exact (by decide : (0 : Nat) < 1152921504606845789)

set_option maxRecDepth 100000 in
set_option maxHeartbeats 2000000 in
theorem split_go (w : World) (M : Nat → Prop) (v : Value) (xs : List Nat) (h : IsU64 w M v xs) (n : Nat) (ha : allD coefOk xs = true) (g1 : 1 ≤ n) (g2 : n ≤ 192) :
    Calls Try.prog 14 #[v, .int .i64 n] w (ShsE w (splitD xs n)) := by
  have CA := Lib.hid (all_any asks_coef w M v xs h)
  have H := Lib.hid h
  obtain ⟨A, c, rfl, h1, h2, -⟩ := h
  rw [splitD_yes ha g1 g2]
  have HCO : Hid (∀ c ∈ xs, c < 1152921504606845789) := fun c hc => of_decide_eq_true ((List.all_eq_true.1 (by unfold allD at ha; exact (Bool.and_eq_true _ _ ▸ ha).2)) c hc)
  have HLE : Hid (xs.length ≤ 24) := (by unfold allD lenOk at ha; simp only [Bool.and_eq_true, decide_eq_true_eq] at ha; exact ha.1.2)
  rw [ha] at CA
  clear ha
  have b1 : decide ((n : Int) < 1) = false := by simp; omega
  have b2 : decide ((192 : Int) < (n : Int)) = false := by simp; omega
  refine (callsIn_wide (n := 6)).1 ?_
  refine callsIn_of_wp_marks Try.func14 rfl trivial ?_ rfl
  simp only [Try.ntmps14, List.size_toArray, List.length_cons, List.length_nil, Nat.reduceAdd, Nat.reduceSub, Array.replicate_succ, Array.replicate_zero, List.push_toArray, List.append_toArray, List.nil_append, List.cons_append]
  gi_wp2_with fail
  refine ⟨trivial, callsIn_wide.2 ?_⟩
  refine CA.out.mono ?_
  rintro e w1 ⟨rfl, hb1⟩
  have HB1 := Lib.hid hb1
  clear hb1
  gi_wp2_with fail
  refine wpIn_loop (fun a' w' => ∃ (k : Nat) (v4 u6 u7 u23 u24 u25 u26 u27 u28 u29 u30 u41 u42 u43 u44 u45 : Value) (ds : List Deferred), (k ≤ n ∧ Hid (w'.ownsRow w.heap.size 36 2 v4 k (rowS (shsTo xs k))) ∧ Hid (Below w.heap.size w w') ∧ Hid (MarksIn w.heap.size w' ds)) ∧ a' = { tmps := #[Value.slice A xs.length c, Value.int IntKind.i64 n, undef, undef, v4, Value.int IntKind.i64 0, u6, u7, undef, undef, Value.slice A xs.length c, Value.bool true, Value.bool false, Value.bool false, Value.int IntKind.i64 n, Value.bool false, Value.bool false, Value.bool false, Value.int IntKind.i64 n, Value.bool false, Value.bool false, Value.int IntKind.i64 n, Value.int IntKind.i64 (k : Int), u23, u24, u25, u26, u27, u28, u29, u30, undef, undef, undef, undef, undef, undef, undef, undef, undef, undef, u41, u42, u43, u44, u45, undef], defers := ds }) (fun a' _ => n - (intOf (a'.tmps.getD 22 undef)).toNat) ?start ?round
  case start =>
    exact ⟨0, .slice none 0 0, undef, undef, undef, undef, undef, undef, undef, undef, undef, undef, undef, undef, undef, undef, undef, [], ⟨Nat.zero_le _, Lib.hid (own_nil _ _ _ _), HB1, Lib.hid MarksIn.nil⟩, rfl⟩
  case round =>
    rintro a' wr ⟨k, v4, u6, u7, u23, u24, u25, u26, u27, u28, u29, u30, u41, u42, u43, u44, u45, ds, ⟨hk, HO, HB, HM⟩, rfl⟩
    by_cases hlt : k < n
    · have hlt' : (k : Int) < (n : Int) := by omega
      obtain ⟨K, hK⟩ : ∃ K, K = k + 1 := ⟨_, rfl⟩
      have hw : IntKind.u64.wrap ((k : Int) + 1) = (K : Int) := wn (by omega) (by omega)
      have HK := Lib.hid hK
      clear hK
      gi_wp2_with fail
      refine ⟨trivial, ?_⟩
      refine (back_in _ _ trivial rfl _ _ _ _).mono ?_
      rintro e w3 ⟨rfl, rfl⟩
      gi_wp2_with fail
      obtain ⟨W0, hW0⟩ : ∃ W0, W0 = (wr.alloc (.cells #[.int .u64 (K : Int), .int .u64 0] 36)).alloc (.cells #[.slice A xs.length c] 23) := ⟨_, rfl⟩
      have hz0 : W0.heap.size = wr.heap.size + 2 := by rw [hW0]; simp
      have hB0 : Below wr.heap.size wr W0 := by rw [hW0]; exact ((Below.refl _ _).alloc (Nat.le_refl _) _).alloc (by simp) _
      have k0 : W0.heap[wr.heap.size]? = some (.cells #[.int .u64 (K : Int), .int .u64 0] 36 (0, 0)) := (by rw [hW0]; simp only [heap_alloc_if, World.size_alloc]; repeat (first | rw [if_pos trivial] | rw [if_pos (by omega)] | rw [if_neg (by omega)]))
      have k1 : W0.heap[wr.heap.size + 1]? = some (.cells #[.slice A xs.length c] 23 (0, 0)) := (by rw [hW0]; simp only [heap_alloc_if, World.size_alloc]; repeat (first | rw [if_pos trivial] | rw [if_pos (by omega)] | rw [if_neg (by omega)]))
      rw [← hW0]
      have HW0 := Lib.hid hW0
      clear hW0
      have hK1 : 1 ≤ K ∧ K ≤ 192 := by have := HK.out; omega
      have hKQ : K < 1152921504606845789 := Nat.lt_of_le_of_lt hK1.2 (by decide)
      have hUm : IsU64 W0 (fun b => b < W0.heap.size ∧ b ≠ wr.heap.size) (.slice A xs.length c) xs := by
        have hwr : w.heap.size ≤ wr.heap.size := HB.out.size
        obtain ⟨A', c', e', q1, q2, q3⟩ := H.out
        refine ⟨A', c', e', q1, q2, fun hn => ?_⟩
        obtain ⟨b, off, e, -, hcc⟩ := q3 hn
        have hbw : b < w.heap.size := lt_of_cell (hcc 0 0 hn (by omega))
        refine ⟨b, off, e, ⟨by omega, by omega⟩, fun i j hi hj => ?_⟩
        exact ((HB.out.trans (hB0.mono hwr)).cell (p := ⟨b, _, none⟩) hbw).trans (hcc i j hi hj)
      have HHk := Lib.hid hk
      clear hk
      refine wpIn_rangeFunc_ownF rfl (by omega) (gf := 51) (lb := #[.pointer (some ⟨wr.heap.size + 1, 0, none⟩)]) rfl trivial (enters_of Try.func51 (by kernel_rfl) rfl)
        (back_stops Fence.wide 5 trivial rfl (by decide) (wr.heap.size + 1) c (fun b => b < W0.heap.size ∧ b ≠ wr.heap.size) A xs (by have := HLE.out; omega) ⟨by omega, by omega⟩ W0 (fun k hk => hk.1) (cell_of (j := 0) k1 rfl) hUm)
        km_t (km_b (fun k hk => hk.1)) (Below.refl _ _) (fun _ => rfl)
        (fun pre W => W.heap[wr.heap.size]? = some (.cells #[.int .u64 (K : Int), .int .u64 ((horI xs K pre : Nat) : Int)] 36 (0, 0)) ∧ Below wr.heap.size wr W)
        (fun _ _ _ => False)
        (OwnFrom.and (ownFrom_cells _ _ _ (fun _ => rfl)) (ownFrom_below (Nat.le_refl _) (by omega)))
        (fun _ _ _ _ _ hs _ _ => hs)
        ⟨k0, hB0⟩
        (fun j => { tmps := #[Value.slice A xs.length c, Value.int IntKind.i64 n, undef, undef, v4, Value.int IntKind.i64 0, Value.int IntKind.i64 (k : Int), Value.pointer (some ⟨wr.heap.size, 0, none⟩), undef, Value.int IntKind.u64 ((nth xs j : Nat) : Int), Value.slice A xs.length c, Value.bool true, Value.bool false, Value.bool false, Value.int IntKind.i64 n, Value.bool false, Value.bool false, Value.bool false, Value.int IntKind.i64 n, Value.bool false, Value.bool false, Value.int IntKind.i64 n, Value.int IntKind.i64 (k : Int), Value.bool true, Value.int IntKind.i64 (k : Int), Value.int IntKind.i64 (k : Int), Value.int IntKind.i64 ((k : Int) + 1), Value.int IntKind.u64 (K : Int), Value.agg #[Value.int IntKind.u64 (K : Int), Value.int IntKind.u64 0], Value.slice A xs.length c, Value.func (Fn.func 51) #[] #[Value.pointer (some ⟨wr.heap.size + 1, 0, none⟩)], Value.int IntKind.i64 (j : Int), Value.int IntKind.u64 ((nth xs j : Nat) : Int), undef, undef, undef, undef, undef, undef, undef, undef, u41, u42, u43, u44, u45, undef], defers := [] })
        ?assign ?body ?done ?stop
      case assign =>
        intro l j W K' hK'
        simp only [encU]
        gi_wp2
        exact hK'
      case body =>
        rintro l pre j W ⟨hs, hB⟩ -
        have e0 := cell_of (j := 0) hs rfl
        have e1 := cell_of (j := 1) hs rfl
        have f1 := frozen_of (j := 1) hs
        have hcj := getD_ltQ HCO.out j
        have C1 := fun W => Lib.hid (mul_Q (horI xs K pre) K (horI_lt _ _ _) hKQ W)
        have HS := Lib.hid (horI_snoc xs K pre j)
        obtain ⟨z, hz⟩ : ∃ z, horI xs K pre * K % 1152921504606845789 = z := ⟨_, rfl⟩
        have hzl : z < 1152921504606845789 := by rw [← hz]; exact Nat.mod_lt _ (by decide)
        rw [hz] at C1 HS
        have C2 := fun W => Lib.hid (add_Q z (nth xs j) (by omega) W)
        rw [← HS.out] at C2
        have HSS := Lib.hid hs
        have HBB := Lib.hid hB
        clear hz hzl hcj hs hB
        gi_wp2_with fail
        refine ⟨trivial, ?_⟩
        refine (CallsIn.inRound l (callsIn_wide.2 (C1 _).out)).mono ?_
        rintro e w4 ⟨rfl, n1, rfl⟩
        gi_wp2_with fail
        refine ⟨trivial, ?_⟩
        refine (CallsIn.inRound l (callsIn_wide.2 (C2 _).out)).mono ?_
        rintro e w5 ⟨rfl, n2, rfl⟩
        gi_wp2_with fail
        refine ⟨((KeepsOthers.drewN _ _).trans (KeepsOthers.setCell _ _ _)), ((KM.refl _).drewN _).setCell (by omega) _ _, ?_, (below_drewN HBB.out _).setCell (by dsimp only; omega) _⟩
        rw [heap_set_if, if_pos rfl, World.heap_drewN, HSS.out]
        rfl
      case done =>
        rintro D ys W hD rfl ⟨hs, hB⟩ hK
        rw [horI_came xs K xs.length 0 (by omega), List.drop_zero] at hs
        have HSS := Lib.hid hs
        have e0 := cell_of (j := 0) hs rfl
        have e1 := cell_of (j := 1) hs rfl
        have HOW := Lib.hid (own_below HO.out hB (Nat.le_refl _))
        have HBW := Lib.hid (HB.out.trans (hB.mono HB.out.size))
        have HMW := Lib.hid (HM.out.cons (w' := W) (Nat.le_refl _) HB.out.size (fun D' _ hD' => (hB.block D' (lt_heap hD')).trans hD') (show wr.heap.size ≤ D by omega) hK)
        have MS := Lib.hid (show rowS (shsTo xs k) ++ [u64v K, u64v (hor xs K)] = rowS (shsTo xs (k + 1)) by rw [HK.out]; exact shsTo_succ xs k)
        obtain ⟨z, hz⟩ : ∃ z, hor xs K = z := ⟨_, rfl⟩
        rw [hz] at e1 MS
        have hsq := HBW.out.size
        obtain ⟨iu, hiu, hz0, hz1, hz2⟩ := info_parts Try.info_sh
        have HIU := Lib.hid (And.intro hiu (And.intro hz0 (And.intro hz1 hz2)))
        clear hiu hz0 hz1 hz2 hz hs hB hK hD
        gi_wp2_with (gi_at_builtin; refine wpListIn_append_own _ rfl _ _ 28 rfl w.heap.size 36 iu (.agg #[.int .u64 0, .int .u64 0]) 2 16 Try.underlying28 HIU.out.1 HIU.out.2.1 HIU.out.2.2.1 HIU.out.2.2.2 rfl (by decide) _ k _ rfl (HOW.out.alloc _) ⟨W.heap.size, 0, none⟩ 1 1 [u64v K, u64v z] rfl rfl ?c1 ?c2 ?c3 ?c4 ?c5 ?_)
        case c1 => exact cell_two_new _ _ _ _
        case c2 => exact two_u64 _ _
        case c3 => unfold maxLen; omega
        case c4 => omega
        case c5 => simp; omega
        intro v7 w7 hown7 hgrow7 _
        rw [MS.out] at hown7
        have HO7 := Lib.hid hown7
        have HB7 := Lib.hid ((HBW.out.alloc hsq _).grown hgrow7 (by simp; omega) (own_base HOW.out))
        have HM7 := Lib.hid (MarksIn.grown (HMW.out.others (KeepsOthers.alloc _ _)) hgrow7 (own_cells (HOW.out.alloc _)))
        clear hown7 hgrow7
        gi_wp2_with fail
        refine ⟨⟨k + 1, v7, _, _, _, _, _, _, _, _, _, _, _, _, _, _, _, mark D :: ds, ⟨by omega, HO7, HB7, HM7⟩, rfl⟩, ?_⟩
        simp [intOf]
        omega
      case stop =>
        rintro D c' pre W - - h -
        exact h.elim
    · have hnl : ¬ (k : Int) < (n : Int) := by omega
      gi_wp2_with fail
      obtain rfl : k = n := by omega
      refine leave_marks ds wr HM.out HB.out.size (fun w' hc hb => ?_)
      exact ⟨.tuple #[v4, .int .i64 0], by simp [results, Try.f14, go_sem], _, rfl, IsSl.keepS (IsShs.row HO.out) hc, HB.out.trans hb⟩
end Go.Proofs.Ytpcodholllaceaa
