/- Check of the reference. -/
import Derived.Test.YthlnfjbedehjdaaG8
import Derived.Test.YthlnfjbedehjdaaC10
import Derived.BigQuiet
namespace Go.Proofs.Ythlnfjbedehjdaa
open Go.RowKit Go.Deep Go.Shelf

set_option maxRecDepth 20000 in
set_option maxHeartbeats 4000000 in
theorem rcheck29_any (w : World) (M M' : Nat → Prop) (v u : Value) (q : RaceD) (x : VerD) (h : IsRace w M v q) (h' : IsVer w M' u x) (h6 : q.clubs.length ≤ 6) (hf : FewV x) : Calls Try.prog 20 #[v, u] w (RetE (checkR q x) w) := by
  obtain ⟨cA, cc, pA, pc, oA, oc, rfl, -⟩ := h.parts
  obtain ⟨rA, rc, mA, mc, tA, tc, rfl, -⟩ := h'.parts
  have HR := Lib.hid h
  have HU := Lib.hid h'
  have H6 := Lib.hid h6
  have HF := Lib.hid hf
  clear h h' h6 hf
  obtain ⟨z, hz⟩ : ∃ z, z = checkR q x := ⟨_, rfl⟩
  have HZ := Lib.hid hz
  rw [← hz]
  clear hz
  go_enter Try.func20, Try.ntmps20
  go_wp2_with fail
  refine nameW fun W1 hW1 => ?_
  have hb1 : Below w.heap.size w W1 := by rw [hW1.out]; exact ((Below.refl _ _).alloc (Nat.le_refl _) _).alloc (by simp) _
  have k0 : W1.heap[w.heap.size]? = some (.cells #[.int .i64 q.win, .int .i64 q.draw, .slice cA q.clubs.length cc, .slice pA q.points.length pc, .slice oA q.opn.length oc, .int .i64 q.club, .int .i64 q.place] 25 (0, 0)) := by rw [hW1.out, heap_alloc_if, if_neg (by simp)]; exact heap_alloc_new _ _
  have k1 : W1.heap[w.heap.size + 1]? = some (.cells #[.int .i64 x.kind, .slice rA x.reached.length rc, .slice mA x.missed.length mc, .slice tA x.cuts.length tc] 35 (0, 0)) := by rw [hW1.out, heap_alloc_if, if_pos (by simp)]
  have K0 := Lib.hid k0
  have K1 := Lib.hid k1
  have HB1 := Lib.hid hb1
  obtain ⟨B1, hB1⟩ : ∃ B1, B1 = w.heap.size + 1 := ⟨_, rfl⟩
  rw [← hB1] at K1 ⊢
  clear hW1 hb1 k0 k1 hB1
  refine (rvalid_any W1 M _ q (HR.out.below HB1.out)).mono ?_
  rintro e W2 ⟨rfl, hb⟩
  have HB2 := Lib.hid (HB1.out.trans (hb.mono HB1.out.size))
  have k0 := (hb.block _ (lt_heap K0.out)).trans K0.out
  have k1 := (hb.block _ (lt_heap K1.out)).trans K1.out
  clear hb K0 K1 HB1
  by_cases hv : validB q = true
  case neg =>
    have HQ := Lib.hid (show z = 280 by rw [HZ.out]; unfold checkR; simp [hv])
    rw [show validB q = false by simpa using hv]
    clear hv k0 k1
    go_wp2_with fail
    go_ret
    exact ⟨ret_int HQ.out.symm, HB2.out⟩
  have HV := Lib.hid (validB_iff.1 hv)
  have HVB := Lib.hid hv
  rw [hv]
  clear hv
  have r0 := cell_of (j := 0) k0 rfl
  have r1 := cell_of (j := 1) k0 rfl
  have r2 := cell_of (j := 2) k0 rfl
  have r3 := cell_of (j := 3) k0 rfl
  have r4 := cell_of (j := 4) k0 rfl
  have r5 := cell_of (j := 5) k0 rfl
  have r6 := cell_of (j := 6) k0 rfl
  have c0 := cell_of (j := 0) k1 rfl
  have c1 := cell_of (j := 1) k1 rfl
  have c2 := cell_of (j := 2) k1 rfl
  have c3 := cell_of (j := 3) k1 rfl
  clear k0 k1
  go_wp2_with fail
  refine (rshown_any W2 M M' _ _ q x (HR.out.below HB2.out) (HU.out.below HB2.out) HV.out H6.out HF.out).mono ?_
  rintro e W3 ⟨rfl, hb⟩
  have HB3 := Lib.hid (HB2.out.trans (hb.mono HB2.out.size))
  clear hb r0 r1 r2 r3 r4 r5 r6 c0 c1 c2 c3
  by_cases hk : kindB q x = true
  · have HQ := Lib.hid (show z = 0 by rw [HZ.out]; unfold checkR; simp [HVB.out, hk])
    rw [hk]
    clear hk
    go_wp2_with fail
    go_ret
    exact ⟨ret_int HQ.out.symm, HB3.out⟩
  · have HQ := Lib.hid (show z = 290 by rw [HZ.out]; unfold checkR; simp [HVB.out, hk])
    rw [show kindB q x = false by simpa using hk]
    clear hk
    go_wp2_with fail
    go_ret
    exact ⟨ret_int HQ.out.symm, HB3.out⟩
end Go.Proofs.Ythlnfjbedehjdaa
