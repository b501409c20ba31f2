import Derived.Test.YtpcodholllaceaaE11
import Derived.Laws.EntriesVeiled
namespace Go.Proofs.Ytpcodholllaceaa
open Go.RowKit Go.Shelf

attribute [local go_sem] Oper.semAt_some
/-- the product after the factors of pre -/
def prF (cs : List Nat) (x : Nat) (pre : List Nat) : Nat := pre.foldl (fun p q => p * facQ cs x q % 2305843009213691579) 1
theorem prF_snoc (cs : List Nat) (x : Nat) (pre : List Nat) (q : Nat) : prF cs x (pre ++ [q]) = prF cs x pre * facQ cs x q % 2305843009213691579 := by
  unfold prF; rw [List.foldl_append]; rfl
theorem prF_lt (cs : List Nat) (x : Nat) (pre : List Nat) : prF cs x pre < 2305843009213691579 := by
  rcases List.eq_nil_or_concat pre with rfl | ⟨l, a, rfl⟩
  · exact (by decide : (1 : Nat) < 2305843009213691579)
  · rw [List.concat_eq_append, prF_snoc]; exact Nat.mod_lt _ (by decide)
theorem prF_verP (cs : List Nat) (x : Nat) : ∀ d q, q + d = cs.length → verP (cs.drop q) x (prF cs x (List.range q)) (kq x q) = prF cs x (List.range cs.length)
  | 0, q, h => by
    obtain rfl : q = cs.length := by omega
    rw [List.drop_length]; rfl
  | d + 1, q, h => by
    have hq : q < cs.length := by omega
    rw [List.drop_eq_getElem_cons hq]
    have hs := prF_verP cs x d (q + 1) (by omega)
    rw [List.range_succ, prF_snoc] at hs
    have e : facQ cs x q = pw cs[q] (kq x q) := by unfold facQ; rw [nth_get hq]
    rw [e] at hs
    exact hs
theorem prF_ver (cs : List Nat) (x : Nat) : prF cs x (List.range cs.length) = verP cs x 1 1 := (prF_verP cs x cs.length 0 (by omega)).symm
theorem shOk_lt {s : Nat × Nat} (h : shOk s = true) : 1 ≤ s.1 ∧ s.1 ≤ 192 ∧ s.2 < 1152921504606845789 := by
  unfold shOk at h
  simp only [Bool.and_eq_true, decide_eq_true_eq] at h
  exact ⟨h.1.1, h.1.2, h.2⟩

set_option maxRecDepth 100000 in
set_option maxHeartbeats 2000000 in
theorem verify_go (w : World) (M : Nat → Prop) (v : Value) (cs : List Nat) (h : IsU64 w M v cs) (x y : Nat) (ha : allD elOk cs = true) (hs : shOk (x, y) = true) :
    Calls Try.prog 20 #[v, .agg #[.int .u64 x, .int .u64 y]] w fun e w' => e = .returned (.bool (verD cs (x, y))) ∧ Below w.heap.size w w' := by
  have CA := fun W (hB : Below w.heap.size w W) => Lib.hid (all_any asks_elem W M v cs (h.below hB))
  have H := Lib.hid h
  have CI := fun W => Lib.hid (isShare_any x y W)
  rw [hs] at CI
  obtain ⟨hx1, hx2, hy⟩ := shOk_lt hs
  have hv : verD cs (x, y) = (((pw 4 y : Nat) : Int) == ((prF cs x (List.range cs.length) : Nat) : Int)) := by
    unfold verD
    rw [ha, hs, prF_ver, Bool.eq_iff_iff]
    simp
    omega
  rw [hv]
  obtain ⟨A, c, rfl, h1, h2, -⟩ := h
  have HLE : Hid (cs.length ≤ 24) := (by unfold allD lenOk at ha; simp only [Bool.and_eq_true, decide_eq_true_eq] at ha; exact ha.1.2)
  rw [ha] at CA
  have CW := fun W => Lib.hid (Pow_any 4 y (Nat.lt_trans hy (by decide)) W)
  obtain ⟨py, hpy⟩ : ∃ z, pw 4 y = z := ⟨_, rfl⟩
  rw [hpy] at CW ⊢
  have hxQ : x < 1152921504606845789 := Nat.lt_of_le_of_lt hx2 (by decide)
  clear ha hs hv hpy hy hx1
  refine (callsIn_wide (n := 6)).1 ?_
  refine callsIn_of_wp_marks Try.func20 rfl trivial ?_ rfl
  simp only [Try.ntmps20, List.size_toArray, List.length_cons, List.length_nil, Nat.reduceAdd, Nat.reduceSub, Array.replicate_succ, Array.replicate_zero, List.push_toArray, List.append_toArray, List.nil_append, List.cons_append]
  gi_wp2_with fail
  refine ⟨trivial, callsIn_wide.2 (nameW fun W1 hW1 => ?_)⟩
  have hB1 : Below w.heap.size w W1 := by rw [hW1.out]; exact (Below.refl w.heap.size w).alloc (Nat.le_refl _) _
  have k0 : W1.heap[w.heap.size]? = some (.cells #[.int .u64 x, .int .u64 y] 36 (0, 0)) := (by rw [hW1.out]; simp only [heap_alloc_if]; rw [if_pos trivial])
  refine (CA _ hB1).out.mono ?_
  rintro e w1 ⟨rfl, hb1⟩
  have hF1 := hB1.trans (hb1.mono hB1.size)
  have K0 := (hb1.block w.heap.size (lt_heap k0)).trans k0
  clear hb1 hB1 k0 hW1
  have e0 := cell_of (j := 0) K0 rfl
  have e1 := cell_of (j := 1) K0 rfl
  have HF1 := Lib.hid hF1
  have HK0 := Lib.hid K0
  clear hF1 K0
  gi_wp2_with fail
  refine ⟨trivial, callsIn_wide.2 ?_⟩
  refine (CI _).out.mono ?_
  rintro e w2 ⟨rfl, hb2⟩
  have HF2 := Lib.hid (HF1.out.trans (hb2.mono HF1.out.size))
  have K0 := (hb2.block w.heap.size (lt_heap HK0.out)).trans HK0.out
  clear hb2 e0 e1
  have e0 := cell_of (j := 0) K0 rfl
  have e1 := cell_of (j := 1) K0 rfl
  have HK2 := Lib.hid K0
  have hl2 : w.heap.size < w2.heap.size := lt_heap K0
  clear K0
  gi_wp2_with fail
  refine ⟨trivial, callsIn_wide.2 (nameW fun W3 hW3 => ?_)⟩
  refine (factors_any _ _ _ _ _).mono ?_
  rintro e w3 ⟨rfl, rfl⟩
  have hz3 : W3.heap.size = w2.heap.size + 2 := by rw [hW3.out]; simp
  have hB3 : Below w2.heap.size w2 W3 := by rw [hW3.out]; exact ((Below.refl _ _).alloc (Nat.le_refl _) _).alloc (by simp) _
  have j0 : W3.heap[w2.heap.size]? = some (.cells #[.func (.func 33) #[.int .u64 2305843009213691579] #[]] 31 (0, 0)) := (by rw [hW3.out]; simp only [heap_alloc_if, World.size_alloc]; repeat (first | rw [if_pos trivial] | rw [if_pos (by omega)] | rw [if_neg (by omega)]))
  have j1 : W3.heap[w2.heap.size + 1]? = some (.cells #[.int .u64 1] 22 (0, 0)) := (by rw [hW3.out]; simp only [heap_alloc_if, World.size_alloc]; repeat (first | rw [if_pos trivial] | rw [if_pos (by omega)] | rw [if_neg (by omega)]))
  have HF3 := Lib.hid (HF2.out.trans (hB3.mono HF2.out.size))
  have hk3 := (hB3.block w.heap.size (by omega)).trans HK2.out
  clear hW3 hB3
  gi_wp2_with fail
  obtain ⟨W0, hW0⟩ : ∃ W0, W0 = (W3.alloc (.cells #[.slice A cs.length c] 23)).alloc (.cells #[.int .u64 (x : Int)] 22) := ⟨_, rfl⟩
  have hz0 : W0.heap.size = w2.heap.size + 4 := by rw [hW0]; simp; omega
  have hB0 : Below W3.heap.size W3 W0 := by rw [hW0]; exact ((Below.refl _ _).alloc (Nat.le_refl _) _).alloc (by simp) _
  have k2 : W0.heap[w2.heap.size + 2]? = some (.cells #[.slice A cs.length c] 23 (0, 0)) := (by rw [hW0]; simp only [heap_alloc_if, World.size_alloc]; repeat (first | rw [if_pos trivial] | rw [if_pos (by omega)] | rw [if_neg (by omega)]))
  have k3 : W0.heap[w2.heap.size + 2 + 1]? = some (.cells #[.int .u64 (x : Int)] 22 (0, 0)) := (by rw [hW0]; simp only [heap_alloc_if, World.size_alloc]; repeat (first | rw [if_pos trivial] | rw [if_pos (by omega)] | rw [if_neg (by omega)]))
  have i0 := (hB0.block w2.heap.size (by omega)).trans j0
  have i1 := (hB0.block (w2.heap.size + 1) (by omega)).trans j1
  have hk0 := (hB0.block w.heap.size (by omega)).trans hk3
  rw [← hW0]
  have HF0 := Lib.hid (HF3.out.trans (hB0.mono HF3.out.size))
  clear hW0 hB0 j0 j1 hk3
  have hUm : IsU64 W0 (fun b => b < W0.heap.size ∧ b ≠ w2.heap.size + 1) (.slice A cs.length c) cs := by
    have hwr : w.heap.size ≤ w2.heap.size := HF2.out.size
    obtain ⟨A', c', e', q1, q2, q3⟩ := H.out
    refine ⟨A', c', e', q1, q2, fun hn => ?_⟩
    obtain ⟨b, off, e, -, hcc⟩ := q3 hn
    have hbw : b < w.heap.size := lt_of_cell (hcc 0 0 hn (by omega))
    refine ⟨b, off, e, ⟨by omega, by omega⟩, fun i j hi hj => ?_⟩
    exact (HF0.out.cell (p := ⟨b, _, none⟩) hbw).trans (hcc i j hi hj)
  have I0 := Lib.hid i0
  have HK0 := Lib.hid hk0
  have HZ3 := Lib.hid hz3
  clear i0 hk0 hz3
  refine wpIn_rangeFunc_ownF rfl (by omega) (gf := 54) (lb := #[.pointer (some ⟨w2.heap.size + 2, 0, none⟩), .pointer (some ⟨w2.heap.size + 2 + 1, 0, none⟩)]) rfl trivial (enters_of Try.func54 (by kernel_rfl) rfl)
    (factors_stops 5 (by decide) (w2.heap.size + 2) (w2.heap.size + 2 + 1) c (fun b => b < W0.heap.size ∧ b ≠ w2.heap.size + 1) A cs x hxQ (by have := HLE.out; omega) ⟨by omega, by omega⟩ ⟨by omega, by omega⟩ W0 (fun k hk => hk.1) (cell_of (j := 0) k2 rfl) (cell_of (j := 0) k3 rfl) hUm)
    km_t (km_b (fun k hk => hk.1)) (Below.refl _ _) (fun _ => rfl)
    (fun pre W => W.heap[w2.heap.size + 1]? = some (.cells #[.int .u64 ((prF cs x pre : Nat) : Int)] 22 (0, 0)) ∧ KM (fun b => b < W0.heap.size ∧ b ≠ w2.heap.size + 1) W0 W ∧ Below w.heap.size w W)
    (fun _ _ _ => False)
    (OwnFrom.and (ownFrom_cells _ _ _ (fun _ => rfl)) (OwnFrom.and (ownFrom_km (fun k hk => hk.1) (Nat.le_refl _)) (ownFrom_below (Nat.le_refl _) HF0.out.size)))
    (fun _ _ _ _ _ hs _ _ => hs)
    ⟨i1, KM.refl _, HF0.out⟩
    (fun q => { tmps := #[Value.slice A cs.length c, Value.agg #[Value.int IntKind.u64 (x : Int), Value.int IntKind.u64 (y : Int)], undef, Value.pointer (some ⟨w.heap.size, 0, none⟩), Value.bool false, Value.pointer (some ⟨w2.heap.size, 0, none⟩), Value.pointer (some ⟨w2.heap.size + 1, 0, none⟩), Value.int IntKind.u64 ((facQ cs x q : Nat) : Int), Value.slice A cs.length c, Value.bool true, Value.bool false, Value.bool false, Value.agg #[Value.int IntKind.u64 (x : Int), Value.int IntKind.u64 (y : Int)], Value.bool true, Value.bool false, Value.bool false, Value.func (Fn.func 33) #[Value.int IntKind.u64 2305843009213691579] #[], Value.slice A cs.length c, Value.pointer (some ⟨w.heap.size, 0, none⟩), Value.int IntKind.u64 (x : Int), Value.func (Fn.func 54) #[] #[Value.pointer (some ⟨w2.heap.size + 2, 0, none⟩), Value.pointer (some ⟨w2.heap.size + 2 + 1, 0, none⟩)], Value.int IntKind.u64 ((facQ cs x q : Nat) : Int), undef, undef, undef, undef, undef, undef, undef, undef, undef], defers := [] })
    ?assign ?body ?done ?stop
  case assign =>
    intro l j W K' hK'
    simp only [encF]
    gi_wp2
    exact hK'
  case body =>
    rintro l pre q W ⟨hs, hB, hW⟩ -
    have e1 := cell_of (j := 0) hs rfl
    have f1 := frozen_of (j := 0) hs
    have e0 := cell_of (j := 0) ((hB.block w2.heap.size ⟨by omega, by omega⟩).trans I0.out) rfl
    have C1 := fun W => Lib.hid (mul_P (prF cs x pre) (facQ cs x q) (prF_lt _ _ _) (pw_lt _ _) W)
    rw [← prF_snoc cs x pre q] at C1
    have HSS := Lib.hid hs
    have HBB := Lib.hid hB
    have HWW := Lib.hid hW
    clear hs hB hW
    gi_wp2_with fail
    refine ⟨trivial, ?_⟩
    refine (CallsIn.inRound l (callsIn_wide.2 (C1 _).out)).mono ?_
    rintro e w4 ⟨rfl, n1, rfl⟩
    gi_wp2_with fail
    refine ⟨((KeepsOthers.drewN _ _).trans (KeepsOthers.setCell _ _ _)), ((KM.refl _).drewN _).setCell (by omega) _ _, ?_, (HBB.out.drewN _).setCell (by omega) _ _, (below_drewN HWW.out _).setCell (by dsimp only; omega) _⟩
    rw [heap_set_if, if_pos rfl, World.heap_drewN, HSS.out]
    rfl
  case done =>
    rintro D ys W hD rfl ⟨hs, hB, hW⟩ hK
    have e1 := cell_of (j := 0) hs rfl
    have hk4 := (hB.block w.heap.size ⟨by have := HF2.out.size; omega, by have := HF2.out.size; omega⟩).trans HK0.out
    have y0 := cell_of (j := 0) hk4 rfl
    have y1 := cell_of (j := 1) hk4 rfl
    have HBB := Lib.hid hW
    have HKK := Lib.hid hK
    have HD := Lib.hid hD
    clear hs hB hK hk4 hD hW
    gi_wp2_with fail
    refine wpIn_wide.2 ?_
    go_quiet ((go_at_call 16; exact Calls.quiet_of (CW _).out))
    gi_wp2_with fail
    refine leave_marks _ _ (MarksIn.one (n₀ := w.heap.size) (Nat.le_trans HF0.out.size HD.out) HKK.out) (Nat.le_trans HBB.out.size (Nat.le_refl _)) (fun w' hc hb => ?_)
    exact ⟨_, by simp [results, Try.f20, go_sem], rfl, (below_drewN HBB.out _).trans hb⟩
  case stop =>
    rintro D c' pre W - - h -
    exact h.elim
end Go.Proofs.Ytpcodholllaceaa
