/- The reference's openFits, revealFits. -/
import Derived.Test.YtgaanndidcdbpaaGreatU3
import Derived.Test.YtgaanndidcdbpaaGreatZG
import Derived.BigQuiet
namespace Go.Proofs.YtgaanndidcdbpaaGreat
open Go.RowKit Go.Shelf

def opR (b : BeaD) (o : OpnD) : Bool := decide (0 ≤ comI b o.club) && (memB b o.club && (decide (0 ≤ idxF (fun i => nthI b.clubs i == o.frm) b.clubs.length) && (decide (o.club ≠ o.frm) && (decide ((o.sh.1 : Int) = idxF (fun i => nthI b.clubs i == o.frm) b.clubs.length + 1) && verD (fstC b o.club).checks o.sh))))
theorem u64_wrap_small {x : Int} (h : 0 ≤ x) (h2 : x ≤ 2000) : IntKind.u64.wrap x = x := by simp [IntKind.wrap, IntKind.signed, IntKind.bits]; omega
set_option maxRecDepth 100000 in
set_option maxHeartbeats 8000000 in
theorem rofits_any (w : World) (M : Nat → Prop) (v : Value) (b : BeaD) (o : OpnD) (h : IsBea w M v b) (hs : SmallB b) : Calls Tryz.prog 34 #[v, .agg #[.int .i64 o.club, .int .i64 o.frm, .int .u64 (o.sh.1 : Int), .int .u64 (o.sh.2 : Int)]] w (RetT (opR b o) w) := by
  obtain ⟨cA, cc, kA, kc, rA, rc, oA, oc, rfl, i1, i2, i3, i4⟩ := h.parts
  have HI1 := Lib.hid i1
  have HI2 := Lib.hid i2
  have HI3 := Lib.hid i3
  have HI4 := Lib.hid i4
  have HBE := Lib.hid h
  have HS := Lib.hid hs
  obtain ⟨R, hR⟩ : ∃ R, R = opR b o := ⟨_, rfl⟩
  have HR := Lib.hid (show R = (decide (0 ≤ comI b o.club) && (memB b o.club && (decide (0 ≤ idxF (fun i => nthI b.clubs i == o.frm) b.clubs.length) && (decide (o.club ≠ o.frm) && (decide ((o.sh.1 : Int) = idxF (fun i => nthI b.clubs i == o.frm) b.clubs.length + 1) && verD (fstC b o.club).checks (o.sh.1, o.sh.2)))))) from hR)
  rw [← hR]
  obtain ⟨cx, hcx⟩ : ∃ z, z = o.club := ⟨_, rfl⟩
  obtain ⟨fx, hfx⟩ : ∃ z, z = o.frm := ⟨_, rfl⟩
  obtain ⟨sx, hsx⟩ : ∃ z, z = o.sh.1 := ⟨_, rfl⟩
  obtain ⟨sy, hsy⟩ : ∃ z, z = o.sh.2 := ⟨_, rfl⟩
  rw [← hcx, ← hfx, ← hsx, ← hsy] at HR
  rw [← hcx, ← hfx, ← hsx, ← hsy]
  obtain ⟨pf, hpf⟩ : ∃ z, z = idxF (fun i => nthI b.clubs i == fx) b.clubs.length := ⟨_, rfl⟩
  have HPF := Lib.hid hpf
  rw [← hpf] at HR
  have hpf1 : -1 ≤ pf := by rw [hpf]; unfold idxF; split <;> omega
  have hpf2 : pf ≤ 1000 := by
    rw [hpf]
    by_cases h0 : 0 ≤ idxF (fun i => nthI b.clubs i == fx) b.clubs.length
    · have := idxF_hi (p := fun i => nthI b.clubs i == fx) (n := b.clubs.length) rfl h0; have := hs.cl; omega
    · omega
  clear h hs i1 i2 i3 i4 hR hcx hfx hsx hsy hpf
  go_enter Tryz.func34, Tryz.ntmps34
  go_upto_region 1 with fail
  refine nameC fun W1 hW1 => ?_
  have hb1 : Below w.heap.size w W1 := by rw [hW1.out]; exact ((Below.refl _ _).alloc (Nat.le_refl _) _).alloc (by simp) _
  have k0 : W1.heap[w.heap.size]? = some (.cells #[.slice cA b.clubs.length cc, .int .i64 b.thr, .int .u64 (b.rng : Int), .slice kA b.coms.length kc, .slice rA b.revs.length rc, .slice oA b.opns.length oc] 28 (0, 0)) := by rw [hW1.out, heap_alloc_if, if_neg (by simp)]; exact heap_alloc_new _ _
  have k1 : W1.heap[w.heap.size + 1]? = some (.cells #[.int .i64 cx, .int .i64 fx, .int .u64 (sx : Int), .int .u64 (sy : Int)] 37 (0, 0)) := by rw [hW1.out, heap_alloc_if, if_pos (by simp)]
  have K0 := Lib.hid k0
  have K1 := Lib.hid k1
  have HB1 := Lib.hid hb1
  obtain ⟨B1, hB1⟩ : ∃ B1, B1 = w.heap.size + 1 := ⟨_, rfl⟩
  rw [← hB1] at K1 ⊢
  clear hW1 hb1 k0 k1 hB1
  have HCC := Lib.hid (show ∀ W', Below W1.heap.size W1 W' → (W'.cell? ⟨w.heap.size, 0, none⟩ = some (.slice cA b.clubs.length cc) ∧ W'.cell? ⟨w.heap.size, 1, none⟩ = some (.int .i64 b.thr) ∧ W'.cell? ⟨w.heap.size, 2, none⟩ = some (.int .u64 (b.rng : Int)) ∧ W'.cell? ⟨w.heap.size, 3, none⟩ = some (.slice kA b.coms.length kc) ∧ W'.cell? ⟨w.heap.size, 4, none⟩ = some (.slice rA b.revs.length rc) ∧ W'.cell? ⟨w.heap.size, 5, none⟩ = some (.slice oA b.opns.length oc) ∧ W'.cell? ⟨B1, 0, none⟩ = some (.int .i64 cx) ∧ W'.cell? ⟨B1, 1, none⟩ = some (.int .i64 fx) ∧ W'.cell? ⟨B1, 2, none⟩ = some (.int .u64 (sx : Int)) ∧ W'.cell? ⟨B1, 3, none⟩ = some (.int .u64 (sy : Int))) from fun W' h => by
    have e0 := (h.block _ (lt_heap K0.out)).trans K0.out
    have e1 := (h.block _ (lt_heap K1.out)).trans K1.out
    exact ⟨cell_of e0 rfl, cell_of e0 rfl, cell_of e0 rfl, cell_of e0 rfl, cell_of e0 rfl, cell_of e0 rfl, cell_of e1 rfl, cell_of e1 rfl, cell_of e1 rfl, cell_of e1 rfl⟩)
  obtain ⟨c0, c1, c2, c3, c4, c5, d0, d1, d2, d3⟩ := HCC.out W1 (Below.refl _ _)
  go_wp2_with fail
  refine (rcommit_any W1 M _ b (HBE.out.below HB1.out) HS.out.co cx).mono ?_
  rintro e W2 ⟨uA, uc, rfl, hu, hb⟩
  obtain ⟨x, hx⟩ : ∃ x, x = fstC b cx := ⟨_, rfl⟩
  obtain ⟨z, hz⟩ : ∃ z, z = decide (0 ≤ comI b cx) := ⟨_, rfl⟩
  rw [← hx, ← hz] at HR
  rw [← hx] at hu
  rw [← hx, ← hz]
  have HU2 := Lib.hid hu
  have HB2 : Hid (Below W1.heap.size W1 W2) := Lib.hid hb
  clear hb hu hx hz c0 c1 c2 c3 c4 c5 d0 d1 d2 d3
  obtain ⟨ln, hln⟩ : ∃ n, n = x.checks.length := ⟨_, rfl⟩
  have HLN := Lib.hid hln
  rw [← hln] at HU2 ⊢
  (try rw [← hln] at HR)
  clear hln
  go_upto_region 2 with fail
  refine nameC fun W3 hW3 => ?_
  have hb3 : Below W2.heap.size W2 W3 := by rw [hW3.out]; exact (Below.refl _ _).alloc (Nat.le_refl _) _
  obtain ⟨g, hg⟩ : ∃ g, g = W2.heap.size := ⟨_, rfl⟩
  have g3 : W3.heap[g]? = some (.cells #[.int .i64 x.club, .slice uA ln uc] 31 (0, 0)) := by rw [hW3.out, hg]; exact heap_alloc_new _ _
  have G3 := Lib.hid g3
  have HB3 := Lib.hid (HB2.out.trans (hb3.mono HB2.out.size))
  have HU3 := Lib.hid (IsSl.below HU2.out hb3)
  rw [← hg]
  clear hW3 hb3 g3 hg HB2 HU2
  obtain ⟨c0, c1, c2, c3, c4, c5, d0, d1, d2, d3⟩ := HCC.out W3 HB3.out
  go_wp2_with fail
  refine (rpos_any W3 M _ b (HBE.out.below (HB1.out.trans (HB3.out.mono HB1.out.size))) HS.out.cl fx).mono ?_
  rintro e W4 ⟨rfl, hb⟩
  rw [← HPF.out]
  have G4 := Lib.hid ((hb.block _ (lt_heap G3.out)).trans G3.out)
  have HU4 := Lib.hid (IsSl.below HU3.out hb)
  have HB4 := Lib.hid (HB3.out.trans (hb.mono HB3.out.size))
  have HBw := Lib.hid (HB1.out.trans (HB4.out.mono HB1.out.size))
  clear hb c0 c1 c2 c3 c4 c5 d0 d1 d2 d3 G3 HU3 HB3
  obtain ⟨c0, c1, c2, c3, c4, c5, d0, d1, d2, d3⟩ := HCC.out W4 HB4.out
  cases z with
  | false =>
    have HQ := Lib.hid (show R = false by rw [HR.out]; rfl)
    go_wp2_with fail
    go_ret
    exact ⟨ret_bool HQ.out.symm, HBw.out⟩
  | true =>
  have HR := Lib.hid (HR.out.trans (Bool.true_and _))
  go_wp2_with fail
  refine (rpos_any W4 M _ b (HBE.out.below HBw.out) HS.out.cl cx).mono ?_
  rintro e W5 ⟨rfl, hb⟩
  obtain ⟨pc, hpc⟩ : ∃ z, z = idxF (fun i => nthI b.clubs i == cx) b.clubs.length := ⟨_, rfl⟩
  have HM := Lib.hid (show memB b cx = decide (0 ≤ pc) by rw [hpc]; exact mem_pos)
  rw [← hpc]
  have g5 := (hb.block _ (lt_heap G4.out)).trans G4.out
  have HU5 := Lib.hid (IsSl.below HU4.out hb)
  have HB5 := Lib.hid (HB4.out.trans (hb.mono HB4.out.size))
  have HBw5 := Lib.hid (HB1.out.trans (HB5.out.mono HB1.out.size))
  clear hb hpc c0 c1 c2 c3 c4 c5 d0 d1 d2 d3 HBw HB4 HU4
  obtain ⟨c0, c1, c2, c3, c4, c5, d0, d1, d2, d3⟩ := HCC.out W5 HB5.out
  have e0 := cell_of (j := 0) g5 rfl
  have e1 := cell_of (j := 1) g5 rfl
  clear g5
  rw [HM.out] at HR
  by_cases q1 : 0 ≤ pc
  case neg =>
    have t1 : decide (0 ≤ pc) = false := decide_eq_false q1
    have HQ := Lib.hid (show R = false by rw [HR.out, decide_eq_false q1]; rfl)
    clear q1
    go_wp2_with fail
    go_ret
    exact ⟨ret_bool HQ.out.symm, HBw5.out⟩
  have t1 : decide (0 ≤ pc) = true := decide_eq_true q1
  have HR := Lib.hid (HR.out.trans (by rw [t1, Bool.true_and]))
  clear q1
  by_cases q2 : 0 ≤ pf
  case neg =>
    have t2 : decide (0 ≤ pf) = false := decide_eq_false q2
    have HQ := Lib.hid (show R = false by rw [HR.out, decide_eq_false q2]; rfl)
    clear q2
    go_wp2_with fail
    go_ret
    exact ⟨ret_bool HQ.out.symm, HBw5.out⟩
  have t2 : decide (0 ≤ pf) = true := decide_eq_true q2
  have HR := Lib.hid (HR.out.trans (by rw [t2, Bool.true_and]))
  by_cases q3 : cx ≠ fx
  case neg =>
    have t3 : (cx != fx) = false := by rw [bne_eq_false_iff_eq]; exact Classical.not_not.1 q3
    have HQ := Lib.hid (show R = false by rw [HR.out, decide_eq_false q3]; rfl)
    clear q3
    go_wp2_with fail
    go_ret
    exact ⟨ret_bool HQ.out.symm, HBw5.out⟩
  have t3 : (cx != fx) = true := by rw [bne_iff_ne]; exact q3
  have HR := Lib.hid (HR.out.trans (by rw [decide_eq_true q3, Bool.true_and]))
  have hw := u64_wrap_small (x := pf + 1) (by omega) (by omega)
  clear q3 q2
  by_cases q4 : (sx : Int) = pf + 1
  case neg =>
    have t4 : ((sx : Int) == pf + 1) = false := by rw [beq_eq_false_iff_ne]; exact q4
    have HQ := Lib.hid (show R = false by rw [HR.out, decide_eq_false q4]; rfl)
    clear q4
    go_wp2_with fail
    go_ret
    exact ⟨ret_bool HQ.out.symm, HBw5.out⟩
  have t4 : ((sx : Int) == pf + 1) = true := by rw [beq_iff_eq]; exact q4
  have HR := Lib.hid (HR.out.trans (by rw [decide_eq_true q4, Bool.true_and]))
  clear q4
  go_wp2_with fail
  refine (refVerify_any W5 _ _ x.checks HU5.out sx sy).mono ?_
  rintro e W6 ⟨rfl, hb⟩
  have HB6 := Lib.hid (HBw5.out.trans (hb.mono HBw5.out.size))
  rw [← HR.out]
  clear hb
  go_wp2_with fail
  go_ret
  exact ⟨rfl, HB6.out⟩
end Go.Proofs.YtgaanndidcdbpaaGreat
