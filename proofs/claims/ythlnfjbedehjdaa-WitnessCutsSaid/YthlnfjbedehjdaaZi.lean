import Derived.Test.YthlnfjbedehjdaaC9
import Derived.BigQuiet
import Derived.Test.YthlnfjbedehjdaaA17
/- FewVerdict: a verdict that is small enough for the laws. -/
namespace Go.Proofs.Ythlnfjbedehjdaa
open Go.RowKit Go.Deep Go.Shelf

def cutSz (c : CutD) : Nat := c.free.length + c.clubs.length + c.games.length
def verN (x : VerD) : Nat → Nat
  | 0 => x.reached.length + x.missed.length + x.cuts.length
  | k + 1 => verN x k + cutSz (cutN x.cuts k)
theorem verN_mono (x : VerD) {i : Nat} : ∀ {j : Nat}, i ≤ j → verN x i ≤ verN x j
  | 0, h => by rw [Nat.le_zero.1 h]; exact Nat.le_refl _
  | j + 1, h => by
    rcases Nat.lt_or_ge i (j + 1) with h' | h'
    · exact Nat.le_trans (verN_mono x (Nat.le_of_lt_succ h')) (by show _ ≤ verN x j + _; omega)
    · rw [Nat.le_antisymm h h']; exact Nat.le_refl _
def fewVB (x : VerD) : Bool := decide (verN x x.cuts.length ≤ 200)
/-- no slice of the verdict is longer than memory -/
structure SmallV (x : VerD) : Prop where
  r : x.reached.length ≤ 140737488355328
  m : x.missed.length ≤ 140737488355328
  c : x.cuts.length ≤ 140737488355328
  cut : ∀ i, i < x.cuts.length → (cutN x.cuts i).free.length ≤ 140737488355328 ∧ (cutN x.cuts i).clubs.length ≤ 140737488355328 ∧ (cutN x.cuts i).games.length ≤ 140737488355328
theorem fewVB_few {x : VerD} (h : fewVB x = true) : FewV x := by
  have h : verN x x.cuts.length ≤ 200 := of_decide_eq_true h
  have h0 : verN x 0 ≤ verN x x.cuts.length := verN_mono x (Nat.zero_le _)
  have h0' : x.reached.length + x.missed.length + x.cuts.length ≤ 200 := Nat.le_trans h0 h
  refine ⟨by omega, by omega, by omega, fun c hc => ?_⟩
  obtain ⟨i, hi, rfl⟩ := List.getElem_of_mem hc
  have h1 : verN x i + cutSz (cutN x.cuts i) ≤ verN x x.cuts.length := verN_mono x (i := i + 1) hi
  rw [cutN_get hi] at h1
  unfold cutSz at h1
  omega
set_option maxRecDepth 20000 in
set_option maxHeartbeats 4000000 in
theorem fewv_any (w : World) (M : Nat → Prop) (v : Value) (x : VerD) (h : IsVer w M v x) (hs : SmallV x) : Calls Try.prog 15 #[v] w fun e w' => e = .returned (.bool (fewVB x)) ∧ Below w.heap.size w w' := by
  obtain ⟨rA, rc, mA, mc, cA, cc, rfl, -, -, hC⟩ := h.parts
  have HCU := Lib.hid hC
  clear h hC
  have HS := Lib.hid hs
  clear hs
  have hr9 := HS.out.r
  have hm9 := HS.out.m
  have hc9 := HS.out.c
  obtain ⟨nr, hnr⟩ : ∃ n, n = x.reached.length := ⟨_, rfl⟩
  obtain ⟨nm, hnm⟩ : ∃ n, n = x.missed.length := ⟨_, rfl⟩
  obtain ⟨nc, hnc⟩ : ∃ n, n = x.cuts.length := ⟨_, rfl⟩
  have HV0 := Lib.hid (show verN x 0 = nr + nm + nc by rw [hnr, hnm, hnc]; rfl)
  have HZ := Lib.hid (show fewVB x = decide (verN x nc ≤ 200) by rw [hnc]; rfl)
  have HNC := Lib.hid hnc
  rw [← hnr] at hr9 ⊢
  rw [← hnm] at hm9 ⊢
  rw [← hnc] at hc9 ⊢
  clear hnr hnm hnc
  obtain ⟨z, hz⟩ : ∃ z, z = fewVB x := ⟨_, rfl⟩
  rw [← hz] at HZ ⊢
  clear hz
  go_enter Try.func15, Try.ntmps15
  go_wp2_with fail
  refine nameC fun W1 hW1 => ?_
  have hb1 : Below w.heap.size w W1 := by rw [hW1.out]; repeat (first | with_reducible exact Below.refl _ _ | (with_reducible refine Below.drew ?_) | exact (Below.refl _ _).alloc (Nat.le_refl _) _)
  have k0 : W1.heap[w.heap.size]? = some (.cells #[.int .i64 x.kind, .slice rA nr rc, .slice mA nm mc, .slice cA nc cc] 35 (0, 0)) := by rw [hW1.out]; exact heap_alloc_new _ _
  have K0 := Lib.hid k0
  have HB1 := Lib.hid hb1
  clear hW1 hb1 k0
  go_loopw [3, 4] (fun s3 s4 wr => ∃ k n : Nat, k ≤ nc ∧ s3 = .int .i64 (n : Int) ∧ s4 = .int .i64 (k : Int) ∧ n ≤ 422212465066184 ∧ Hid (n = verN x k) ∧ Hid (Below W1.heap.size W1 wr)) (fun _ s4 _ => nc - (intOf s4).toNat)
  case atStart => exact ⟨0, nr + nm + nc, Nat.zero_le _, by simp, rfl, by omega, Lib.hid HV0.out.symm, Lib.hid (Below.refl _ _)⟩
  case round =>
    obtain ⟨k, n, hk, rfl, rfl, hbd, HN, HB2⟩ := hrel
    have HBW := Lib.hid (HB1.out.trans (HB2.out.mono HB1.out.size))
    have k0 := (HB2.out.block _ (lt_heap K0.out)).trans K0.out
    have r1 := cell_of (j := 1) k0 rfl
    have r2 := cell_of (j := 2) k0 rfl
    have r3 := cell_of (j := 3) k0 rfl
    clear k0
    by_cases hn2 : n ≤ 200
    case neg =>
      have HQ := Lib.hid (show z = false by
        rw [HZ.out]; have := verN_mono x hk; rw [← HN.out] at this; exact decide_eq_false (by omega))
      have d0 : decide ((n : Int) ≤ 200) = false := decide_eq_false (by omega)
      have d1 : decide ((n : Int) < 201) = false := decide_eq_false (by omega)
      have d2 : decide ((200 : Int) < (n : Int)) = true := decide_eq_true (by omega)
      by_cases hlt : k < nc
      · have hl1 : (k : Int) < (nc : Int) := by omega
        go_wp2_with fail
        go_ret
        exact ⟨ret_bool HQ.out.symm, HBW.out⟩
      · have hl1 : ¬ (k : Int) < (nc : Int) := by omega
        go_wp2_with fail
        go_ret
        exact ⟨ret_bool HQ.out.symm, HBW.out⟩
    have d0 : decide ((n : Int) ≤ 200) = true := decide_eq_true (by omega)
    have d1 : decide ((n : Int) < 201) = true := decide_eq_true (by omega)
    have d2 : decide ((200 : Int) < (n : Int)) = false := decide_eq_false (by omega)
    by_cases hlt : k < nc
    case neg =>
      have hl1 : ¬ (k : Int) < (nc : Int) := by omega
      have HQ := Lib.hid (show z = true by
        rw [HZ.out, show nc = k by omega, ← HN.out]; exact decide_eq_true hn2)
      go_wp2_with fail
      go_ret
      exact ⟨ret_bool HQ.out.symm, HBW.out⟩
    have hl1 : (k : Int) < (nc : Int) := by omega
    have hk0 : (0 : Int) ≤ (k : Int) := by omega
    obtain ⟨A', c', e, hcc, -, h4⟩ := HCU.out.below HBW.out
    obtain ⟨rfl, -, rfl⟩ := Value.slice.inj e
    obtain ⟨b, off, rfl, h5⟩ := h4 (by rw [← HNC.out]; omega)
    obtain ⟨fA, fc, uA, uc, gA, gc, c0, c1, c2, -⟩ := h5.at_ k (by rw [← HNC.out]; exact hlt)
    obtain ⟨s1, s2, s3⟩ := HS.out.cut k (by rw [← HNC.out]; exact hlt)
    have HNX := Lib.hid (show verN x (k + 1) = n + ((cutN x.cuts k).free.length + (cutN x.cuts k).clubs.length + (cutN x.cuts k).games.length) by rw [HN.out]; rfl)
    obtain ⟨nf, hnf⟩ : ∃ n, n = (cutN x.cuts k).free.length := ⟨_, rfl⟩
    obtain ⟨nu, hnu⟩ : ∃ n, n = (cutN x.cuts k).clubs.length := ⟨_, rfl⟩
    obtain ⟨ng, hng⟩ : ∃ n, n = (cutN x.cuts k).games.length := ⟨_, rfl⟩
    rw [← hnf] at c0 s1 HNX
    rw [← hnu] at c1 s2 HNX
    rw [← hng] at c2 s3 HNX
    clear hnf hnu hng e hcc h4 h5
    go_wp2_with fail
    go_quiet (fail)
    go_wp2_with fail
    go_round
    case rel => exact ⟨k + 1, n + (nf + nu + ng), by omega, by simp only [Value.int.injEq, true_and]; omega, by simp, by omega, Lib.hid HNX.out.symm, Lib.hid (bDrewN HB2.out _)⟩
    case measure => simp [intOf]; omega
end Go.Proofs.Ythlnfjbedehjdaa
/- Few: a race that is small enough for the laws. -/
namespace Go.Proofs.Ythlnfjbedehjdaa
open Go.RowKit Go.Deep Go.Shelf
def fewRB (q : RaceD) : Bool := decide (q.clubs.length ≤ 6) && decide (q.points.length ≤ 8) && decide (q.opn.length ≤ 10)
theorem fewRB_iff {q : RaceD} : fewRB q = true ↔ q.clubs.length ≤ 6 ∧ q.points.length ≤ 8 ∧ q.opn.length ≤ 10 := by
  unfold fewRB; simp only [Bool.and_eq_true, decide_eq_true_eq]; exact ⟨fun ⟨⟨a, b⟩, c⟩ => ⟨a, b, c⟩, fun ⟨a, b, c⟩ => ⟨⟨a, b⟩, c⟩⟩
set_option maxRecDepth 20000 in
set_option maxHeartbeats 4000000 in
theorem rfewr_any (w : World) (M : Nat → Prop) (v : Value) (q : RaceD) (h : IsRace w M v q) : Calls Try.prog 18 #[v] w fun e w' => e = .returned (.bool (fewRB q)) ∧ Below w.heap.size w w' := by
  obtain ⟨cA, cc, pA, pc, oA, oc, rfl, -⟩ := h.parts
  clear h
  obtain ⟨z, hz⟩ : ∃ z, z = fewRB q := ⟨_, rfl⟩
  have HZ := Lib.hid (show z = (decide (q.clubs.length ≤ 6) && decide (q.points.length ≤ 8) && decide (q.opn.length ≤ 10)) from hz)
  rw [← hz]
  clear hz
  obtain ⟨a, ha⟩ : ∃ n, n = q.clubs.length := ⟨_, rfl⟩
  obtain ⟨b, hb⟩ : ∃ n, n = q.points.length := ⟨_, rfl⟩
  obtain ⟨c, hc⟩ : ∃ n, n = q.opn.length := ⟨_, rfl⟩
  rw [← ha, ← hb, ← hc] at HZ ⊢
  clear ha hb hc
  go_enter Try.func18, Try.ntmps18
  by_cases t1 : a ≤ 6
  case neg =>
    have d1 : decide ((a : Int) ≤ 6) = false := decide_eq_false (by omega)
    have HQ := Lib.hid (show z = false by rw [HZ.out, decide_eq_false t1]; rfl)
    clear t1
    go_wp2_with fail
    go_ret
    exact ⟨ret_bool HQ.out.symm, (Below.refl _ _).alloc (Nat.le_refl _) _⟩
  have d1 : decide ((a : Int) ≤ 6) = true := decide_eq_true (by omega)
  by_cases t2 : b ≤ 8
  case neg =>
    have d2 : decide ((b : Int) ≤ 8) = false := decide_eq_false (by omega)
    have HQ := Lib.hid (show z = false by rw [HZ.out, decide_eq_true t1, decide_eq_false t2]; rfl)
    clear t1 t2
    go_wp2_with fail
    go_ret
    exact ⟨ret_bool HQ.out.symm, (Below.refl _ _).alloc (Nat.le_refl _) _⟩
  have d2 : decide ((b : Int) ≤ 8) = true := decide_eq_true (by omega)
  by_cases t3 : c ≤ 10
  case neg =>
    have d3 : decide ((c : Int) ≤ 10) = false := decide_eq_false (by omega)
    have HQ := Lib.hid (show z = false by rw [HZ.out, decide_eq_true t1, decide_eq_true t2, decide_eq_false t3]; rfl)
    clear t1 t2 t3
    go_wp2_with fail
    go_ret
    exact ⟨ret_bool HQ.out.symm, (Below.refl _ _).alloc (Nat.le_refl _) _⟩
  have d3 : decide ((c : Int) ≤ 10) = true := decide_eq_true (by omega)
  have HQ := Lib.hid (show z = true by rw [HZ.out, decide_eq_true t1, decide_eq_true t2, decide_eq_true t3]; rfl)
  clear t1 t2 t3
  go_wp2_with fail
  go_ret
  exact ⟨ret_bool HQ.out.symm, (Below.refl _ _).alloc (Nat.le_refl _) _⟩
end Go.Proofs.Ythlnfjbedehjdaa
