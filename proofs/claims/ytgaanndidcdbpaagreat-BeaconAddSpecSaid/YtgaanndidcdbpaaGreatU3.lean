/- The reference's commitFits, openFits. -/
import Derived.Test.YtgaanndidcdbpaaGreatU2
import Derived.Test.YtgaanndidcdbpaaGreatZM
import Derived.BigQuiet
namespace Go.Proofs.YtgaanndidcdbpaaGreat
open Go.RowKit Go.Shelf

/-- a club takes part exactly if it has a first place -/
theorem mem_pos {b : BeaD} {c : Int} : memB b c = decide (0 ≤ idxF (fun i => nthI b.clubs i == c) b.clubs.length) := by
  have key : ∀ k, k ≤ b.clubs.length → ((placeTo b.clubs k c).isSome = true ↔ ∃ i, i < k ∧ nthI b.clubs i = c) := by
    intro k
    induction k with
    | zero => intro _; exact ⟨fun h => (by cases h), fun ⟨i, h, _⟩ => absurd h (by omega)⟩
    | succ k ih =>
      intro hk
      show (if c = nthI b.clubs k then some k else placeTo b.clubs k c).isSome = true ↔ _
      by_cases e : c = nthI b.clubs k
      · rw [if_pos e]; exact ⟨fun _ => ⟨k, by omega, e.symm⟩, fun _ => rfl⟩
      · rw [if_neg e, ih (by omega)]
        constructor
        · rintro ⟨i, h1, h2⟩; exact ⟨i, by omega, h2⟩
        · rintro ⟨i, h1, h2⟩
          rcases Nat.lt_or_ge i k with h3 | h3
          · exact ⟨i, h3, h2⟩
          · rw [show i = k by omega] at h2; exact absurd h2.symm e
  rw [Bool.eq_iff_iff, decide_eq_true_eq, idxF_has]
  unfold memB placeD
  rw [key _ (Nat.le_refl _)]
  constructor
  · rintro ⟨i, h1, h2⟩; exact ⟨i, h1, by simpa using h2⟩
  · rintro ⟨i, h1, h2⟩; exact ⟨i, h1, by simpa using h2⟩
set_option maxRecDepth 100000 in
set_option maxHeartbeats 8000000 in
theorem rcfits_any (w : World) (M M' : Nat → Prop) (v u : Value) (b : BeaD) (c : ComD) (h : IsBea w M v b) (hs : SmallB b) (h' : IsCom w M' u c) (hl : c.checks.length ≤ 140737488355328) : Calls Tryz.prog 31 #[v, u] w (RetT (comB b c) w) := by
  obtain ⟨cA, cc, kA, kc, rA, rc, oA, oc, rfl, i1, i2, i3, i4⟩ := h.parts
  have HI1 := Lib.hid i1
  have HI2 := Lib.hid i2
  have HI3 := Lib.hid i3
  have HI4 := Lib.hid i4
  have HBE := Lib.hid h
  have HS := Lib.hid hs
  obtain ⟨uv, rfl, hu⟩ := h'
  obtain ⟨uA, uc, rfl, -⟩ := id hu
  have HU := Lib.hid hu
  obtain ⟨R, hR⟩ : ∃ R, R = comB b c := ⟨_, rfl⟩
  have HR := Lib.hid (show R = (memB b c.club && (decide ((c.checks.length : Int) = b.thr) && c.checks.all elOk)) from hR)
  rw [← hR]
  obtain ⟨n, hn⟩ : ∃ n, n = c.checks.length := ⟨_, rfl⟩
  have HN := Lib.hid hn
  obtain ⟨cx, hcx⟩ : ∃ z, z = c.club := ⟨_, rfl⟩
  rw [← hn] at hl HU HR ⊢
  rw [← hcx] at HR ⊢
  have HTH := Lib.hid hs.th
  clear h hs i1 i2 i3 i4 hu hR hn hcx
  go_enter Tryz.func31, Tryz.ntmps31
  go_upto_region 1 with fail
  refine nameC fun W1 hW1 => ?_
  have hb1 : Below w.heap.size w W1 := by rw [hW1.out]; exact ((Below.refl _ _).alloc (Nat.le_refl _) _).alloc (by simp) _
  have k0 : W1.heap[w.heap.size]? = some (.cells #[.slice cA b.clubs.length cc, .int .i64 b.thr, .int .u64 (b.rng : Int), .slice kA b.coms.length kc, .slice rA b.revs.length rc, .slice oA b.opns.length oc] 28 (0, 0)) := by rw [hW1.out, heap_alloc_if, if_neg (by simp)]; exact heap_alloc_new _ _
  have k1 : W1.heap[w.heap.size + 1]? = some (.cells #[.int .i64 cx, .slice uA n uc] 31 (0, 0)) := by rw [hW1.out, heap_alloc_if, if_pos (by simp)]
  have K0 := Lib.hid k0
  have K1 := Lib.hid k1
  have HB1 := Lib.hid hb1
  obtain ⟨B1, hB1⟩ : ∃ B1, B1 = w.heap.size + 1 := ⟨_, rfl⟩
  rw [← hB1] at K1 ⊢
  clear hW1 hb1 k0 k1 hB1
  have HCC := Lib.hid (show ∀ W', Below W1.heap.size W1 W' → (W'.cell? ⟨w.heap.size, 0, none⟩ = some (.slice cA b.clubs.length cc) ∧ W'.cell? ⟨w.heap.size, 1, none⟩ = some (.int .i64 b.thr) ∧ W'.cell? ⟨w.heap.size, 2, none⟩ = some (.int .u64 (b.rng : Int)) ∧ W'.cell? ⟨w.heap.size, 3, none⟩ = some (.slice kA b.coms.length kc) ∧ W'.cell? ⟨w.heap.size, 4, none⟩ = some (.slice rA b.revs.length rc) ∧ W'.cell? ⟨w.heap.size, 5, none⟩ = some (.slice oA b.opns.length oc) ∧ W'.cell? ⟨B1, 0, none⟩ = some (.int .i64 cx) ∧ W'.cell? ⟨B1, 1, none⟩ = some (.slice uA n uc)) from fun W' h => by
    have e0 := (h.block _ (lt_heap K0.out)).trans K0.out
    have e1 := (h.block _ (lt_heap K1.out)).trans K1.out
    exact ⟨cell_of e0 rfl, cell_of e0 rfl, cell_of e0 rfl, cell_of e0 rfl, cell_of e0 rfl, cell_of e0 rfl, cell_of e1 rfl, cell_of e1 rfl⟩)
  obtain ⟨c0, c1, c2, c3, c4, c5, d0, d1⟩ := HCC.out W1 (Below.refl _ _)
  go_wp2_with fail
  refine (rpos_any W1 M _ b (HBE.out.below HB1.out) HS.out.cl cx).mono ?_
  rintro e W2 ⟨rfl, hb⟩
  have HB2 : Hid (Below W1.heap.size W1 W2) := Lib.hid hb
  have HBw := Lib.hid (HB1.out.trans (hb.mono HB1.out.size))
  obtain ⟨pz, hpz⟩ : ∃ z, z = idxF (fun i => nthI b.clubs i == cx) b.clubs.length := ⟨_, rfl⟩
  have HM := Lib.hid (show memB b cx = decide (0 ≤ pz) by rw [hpz]; exact mem_pos)
  rw [← hpz]
  clear hb hpz c0 c1 c2 c3 c4 c5 d0 d1
  obtain ⟨c0, c1, c2, c3, c4, c5, d0, d1⟩ := HCC.out W2 HB2.out
  by_cases hp : pz < 0
  case pos =>
    have t1 : decide (pz < 0) = true := decide_eq_true hp
    have HQ := Lib.hid (show R = false by rw [HR.out, HM.out, decide_eq_false (by omega)]; rfl)
    clear hp
    go_wp2_with fail
    go_ret
    exact ⟨ret_bool HQ.out.symm, HBw.out⟩
  have t1 : decide (pz < 0) = false := decide_eq_false hp
  have HM1 := Lib.hid (show memB b cx = true by rw [HM.out]; exact decide_eq_true (by omega))
  clear hp
  by_cases ht : (n : Int) = b.thr
  case neg =>
    have t2 : ((n : Int) != b.thr) = true := by rw [bne_iff_ne]; exact ht
    have HQ := Lib.hid (show R = false by rw [HR.out, HM1.out, decide_eq_false ht]; rfl)
    clear ht
    go_wp2_with fail
    go_ret
    exact ⟨ret_bool HQ.out.symm, HBw.out⟩
  have t2 : ((n : Int) != b.thr) = false := by rw [bne_eq_false_iff_eq]; exact ht
  have HRA := Lib.hid (show R = c.checks.all elOk by rw [HR.out, HM1.out, decide_eq_true ht]; rfl)
  clear ht
  go_wp2_with fail
  clear t2 t1
  go_loopw [5] (fun i wr => ∃ k : Nat, k ≤ n ∧ i = .int .i64 (k : Int) ∧ Hid (∀ j, j < k → elOk (c.checks.getD j 0) = true) ∧ Hid (Below W1.heap.size W1 wr)) (fun i _ => n - (intOf i).toNat)
  case atStart => exact ⟨0, Nat.zero_le _, rfl, Lib.hid (fun j hj => absurd hj (by omega)), HB2⟩
  case round =>
    clear HB2 HBw c0 c1 c2 c3 c4 c5 d0 d1
    obtain ⟨k, hk, rfl, HA, HB⟩ := hrel
    have HBw := Lib.hid (HB1.out.trans (HB.out.mono HB1.out.size))
    obtain ⟨c0, c1, c2, c3, c4, c5, d0, d1⟩ := HCC.out wr HB.out
    clear c0 c1 c2 c3 c4 c5
    by_cases hlt : k < n
    · have hk1 : (k : Int) < (n : Int) := by omega
      have hk0 : (0 : Int) ≤ (k : Int) := by omega
      have hkl : k < c.checks.length := by rw [← HN.out]; exact hlt
      obtain ⟨g, off, rfl, hgl, hc0⟩ := IsU64.at_ (show IsU64 w M' (.slice uA c.checks.length uc) c.checks by rw [← HN.out]; exact HU.out) HBw.out hkl
      obtain ⟨y, hy⟩ : ∃ y, y = c.checks.getD k 0 := ⟨_, rfl⟩
      rw [show c.checks[k] = y by rw [hy, List.getD_eq_getElem?_getD, List.getElem?_eq_getElem hkl]; rfl] at hc0
      have HY := Lib.hid hy
      have HNO := Lib.hid (show elOk y = false → R = false from fun hh => by
        rw [HRA.out]
        refine List.all_eq_false.2 ⟨_, List.getElem_mem hkl, ?_⟩
        rw [show c.checks[k] = y by rw [hy, List.getD_eq_getElem?_getD, List.getElem?_eq_getElem hkl]; rfl, hh]
        simp)
      have HEL := Lib.hid (show elOk y = (decide (1 ≤ y) && decide (y < 2305843009213691579) && Nat.beq (pw y 1152921504606845789) 1) from rfl)
      clear hy hkl hgl
      by_cases h1 : 1 ≤ y
      case neg =>
        have t1 : decide ((y : Int) < 1) = true := decide_eq_true (by omega)
        have HQ := Lib.hid (show R = false from HNO.out (by rw [HEL.out, decide_eq_false h1]; rfl))
        clear h1
        go_wp2_with fail
        go_ret
        exact ⟨ret_bool HQ.out.symm, HBw.out⟩
      have t1 : decide ((y : Int) < 1) = false := decide_eq_false (by omega)
      have H1 := Lib.hid h1
      clear h1
      by_cases h2 : y < 2305843009213691579
      case neg =>
        have t2 : decide ((2305843009213691579 : Int) ≤ (y : Int)) = true := decide_eq_true (by omega)
        have HQ := Lib.hid (show R = false from HNO.out (by rw [HEL.out, decide_eq_true H1.out, decide_eq_false h2]; rfl))
        clear h2
        go_wp2_with fail
        go_ret
        exact ⟨ret_bool HQ.out.symm, HBw.out⟩
      have t2 : decide ((2305843009213691579 : Int) ≤ (y : Int)) = false := decide_eq_false (by omega)
      have HEB := Lib.hid (show elOk y = Nat.beq (pw y 1152921504606845789) 1 by rw [HEL.out, decide_eq_true H1.out, decide_eq_true h2, Bool.true_and, Bool.true_and])
      clear h2
      have DP := Lib.hid (refPow_any y 1152921504606845789 (by decide) wr)
      obtain ⟨pz2, hpz2⟩ : ∃ z, z = pw y 1152921504606845789 := ⟨_, rfl⟩
      rw [← hpz2] at DP HEB
      clear hpz2 HEL
      go_wp2_with fail
      refine DP.out.mono ?_
      rintro e W4 ⟨rfl, rfl⟩
      by_cases h3 : pz2 = 1
      · have t3 : ((pz2 : Int) != 1) = false := by rw [bne_eq_false_iff_eq]; omega
        have HA2 := Lib.hid (show ∀ j, j < k + 1 → elOk (c.checks.getD j 0) = true from fun j hj => by
          rcases Nat.lt_or_ge j k with q1 | q1
          · exact HA.out j q1
          · rw [show j = k by omega, ← HY.out, HEB.out, h3]; rfl)
        clear h3 DP
        go_wp2_with fail
        go_roundw
        case rel => exact ⟨k + 1, by omega, by go_num, HA2, HB⟩
        case measure => simp [intOf]; omega
      · have t3 : ((pz2 : Int) != 1) = true := by rw [bne_iff_ne]; omega
        have HQ := Lib.hid (show R = false from HNO.out (by rw [HEB.out]; exact Bool.eq_false_iff.2 (fun hh => h3 (Nat.eq_of_beq_eq_true hh))))
        clear h3 DP
        go_wp2_with fail
        go_ret
        exact ⟨ret_bool HQ.out.symm, HBw.out⟩
    · have hk1 : ¬ (k : Int) < (n : Int) := by omega
      have HQ := Lib.hid (show R = true by
        rw [HRA.out]
        refine List.all_eq_true.2 fun x hx => ?_
        obtain ⟨i, hi, rfl⟩ := List.getElem_of_mem hx
        have := HA.out i (by rw [← HN.out] at hi; omega)
        rwa [List.getD_eq_getElem?_getD, List.getElem?_eq_getElem hi] at this)
      clear hlt
      go_wp2_with fail
      go_ret
      exact ⟨ret_bool HQ.out.symm, HBw.out⟩
end Go.Proofs.YtgaanndidcdbpaaGreat
