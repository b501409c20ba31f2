/- The law WitnessOne. -/
import Derived.Test.YthlnfjbedehjdaaL3
import Derived.Test.YthlnfjbedehjdaaF1
import Derived.Test.YthlnfjbedehjdaaZi
import Derived.BigQuiet
namespace Go.Proofs.Ythlnfjbedehjdaa
open Go.RowKit Go.Deep Go.Shelf

set_option maxRecDepth 100000 in
set_option maxHeartbeats 8000000 in
theorem law7 (w : World) (v u u2 : Value) (q : RaceD) (h : IsRace w (NB []) v q) (x : VerD) (h' : IsVer w (NB []) u x) (hs : SmallV x) (y : VerD) (h2 : IsVer w (NB []) u2 y) (hs2 : SmallV y) :
    Calls Try.prog 7 #[v, u, u2] w fun e w' => e = .returned (.bool true) ∧ Below w.heap.size w w' := by
  obtain ⟨cA, cc, pA, pc, oA, oc, rfl, -⟩ := h.parts
  obtain ⟨ar, arc, am, amc, at9, atc, rfl, -⟩ := h'.parts
  obtain ⟨br, brc, bm, bmc, bt, btc, rfl, -⟩ := h2.parts
  have HR := Lib.hid h
  have HU := Lib.hid h'
  have HV := Lib.hid h2
  have HS := Lib.hid hs
  have HS2 := Lib.hid hs2
  clear h h' h2 hs hs2
  go_enter Try.func7, Try.ntmps7
  go_wp2_with fail
  refine nameW fun W1 hW1 => ?_
  have hb1 : Below w.heap.size w W1 := by rw [hW1.out]; exact (((Below.refl _ _).alloc (Nat.le_refl _) _).alloc (by simp) _).alloc (by simp; omega) _
  have k0 : W1.heap[w.heap.size]? = some (.cells #[.int .i64 q.win, .int .i64 q.draw, .slice cA q.clubs.length cc, .slice pA q.points.length pc, .slice oA q.opn.length oc, .int .i64 q.club, .int .i64 q.place] 25 (0, 0)) := by rw [hW1.out]; simp only [heap_alloc_if, World.size_alloc]; rw [if_neg (by omega)]; rw [if_neg (by omega)]; rw [if_pos trivial]
  have k1 : W1.heap[w.heap.size + 1]? = some (.cells #[.int .i64 x.kind, .slice ar x.reached.length arc, .slice am x.missed.length amc, .slice at9 x.cuts.length atc] 35 (0, 0)) := by rw [hW1.out]; simp only [heap_alloc_if, World.size_alloc]; rw [if_neg (by omega)]; rw [if_pos trivial]
  have k2 : W1.heap[w.heap.size + 1 + 1]? = some (.cells #[.int .i64 y.kind, .slice br y.reached.length brc, .slice bm y.missed.length bmc, .slice bt y.cuts.length btc] 35 (0, 0)) := by rw [hW1.out]; simp only [heap_alloc_if, World.size_alloc]; rw [if_pos trivial]
  obtain ⟨B2, hB2⟩ : ∃ B, B = w.heap.size + 1 + 1 := ⟨_, rfl⟩
  rw [← hB2] at k2 ⊢
  clear hB2
  obtain ⟨B1, hB1⟩ : ∃ B, B = w.heap.size + 1 := ⟨_, rfl⟩
  rw [← hB1] at k1 ⊢
  clear hB1
  have HC := Lib.hid (show ∀ W', Below W1.heap.size W1 W' → (W'.cell? ⟨w.heap.size, 0, none⟩ = some (.int .i64 q.win) ∧ W'.cell? ⟨w.heap.size, 1, none⟩ = some (.int .i64 q.draw) ∧ W'.cell? ⟨w.heap.size, 2, none⟩ = some (.slice cA q.clubs.length cc) ∧ W'.cell? ⟨w.heap.size, 3, none⟩ = some (.slice pA q.points.length pc) ∧ W'.cell? ⟨w.heap.size, 4, none⟩ = some (.slice oA q.opn.length oc) ∧ W'.cell? ⟨w.heap.size, 5, none⟩ = some (.int .i64 q.club) ∧ W'.cell? ⟨w.heap.size, 6, none⟩ = some (.int .i64 q.place) ∧ W'.cell? ⟨B1, 0, none⟩ = some (.int .i64 x.kind) ∧ W'.cell? ⟨B1, 1, none⟩ = some (.slice ar x.reached.length arc) ∧ W'.cell? ⟨B1, 2, none⟩ = some (.slice am x.missed.length amc) ∧ W'.cell? ⟨B1, 3, none⟩ = some (.slice at9 x.cuts.length atc) ∧ W'.cell? ⟨B2, 0, none⟩ = some (.int .i64 y.kind) ∧ W'.cell? ⟨B2, 1, none⟩ = some (.slice br y.reached.length brc) ∧ W'.cell? ⟨B2, 2, none⟩ = some (.slice bm y.missed.length bmc) ∧ W'.cell? ⟨B2, 3, none⟩ = some (.slice bt y.cuts.length btc)) from fun W' h => by
    have e0 := (h.block _ (lt_heap k0)).trans k0
    have e1 := (h.block _ (lt_heap k1)).trans k1
    have e2 := (h.block _ (lt_heap k2)).trans k2
    exact ⟨cell_of e0 rfl, cell_of e0 rfl, cell_of e0 rfl, cell_of e0 rfl, cell_of e0 rfl, cell_of e0 rfl, cell_of e0 rfl, cell_of e1 rfl, cell_of e1 rfl, cell_of e1 rfl, cell_of e1 rfl, cell_of e2 rfl, cell_of e2 rfl, cell_of e2 rfl, cell_of e2 rfl⟩)
  have HB1 := Lib.hid hb1
  have HB : Hid (Below W1.heap.size W1 W1) := Lib.hid (Below.refl _ _)
  clear hW1 hb1 k0 k1 k2
  obtain ⟨c0_0, c0_1, c0_2, c0_3, c0_4, c0_5, c0_6, c1_0, c1_1, c1_2, c1_3, c2_0, c2_1, c2_2, c2_3⟩ := HC.out _ HB.out
  refine (sane_any _).mono ?_
  rintro e W9 ⟨rfl, hb⟩
  have HBn : Hid (Below W1.heap.size W1 W9) := Lib.hid ((show Below W1.heap.size W1 _ from (by repeat (first | with_reducible exact Below.refl _ _ | with_reducible exact HB.out | (with_reducible refine Below.drew ?_)))).trans (hb.mono (show W1.heap.size ≤ _ from (show Below W1.heap.size W1 _ from (by repeat (first | with_reducible exact Below.refl _ _ | with_reducible exact HB.out | (with_reducible refine Below.drew ?_)))).size)))
  clear hb HB c0_0 c0_1 c0_2 c0_3 c0_4 c0_5 c0_6 c1_0 c1_1 c1_2 c1_3 c2_0 c2_1 c2_2 c2_3
  have HB := HBn
  clear HBn
  obtain ⟨c0_0, c0_1, c0_2, c0_3, c0_4, c0_5, c0_6, c1_0, c1_1, c1_2, c1_3, c2_0, c2_1, c2_2, c2_3⟩ := HC.out _ HB.out
  have D1 := Lib.hid (fun (W' : World) (h : Below W1.heap.size W1 W') => rfewr_any W' _ _ q (HR.out.below (HB1.out.trans (h.mono HB1.out.size))))
  obtain ⟨zf, hzf⟩ : ∃ z, z = fewRB q := ⟨_, rfl⟩
  rw [← hzf] at D1
  have HZF := Lib.hid hzf
  clear hzf
  go_wp2_with fail
  refine (D1.out _ (by repeat (first | with_reducible exact Below.refl _ _ | with_reducible exact HB.out | (with_reducible refine Below.drew ?_)))).mono ?_
  rintro e W9 ⟨rfl, hb⟩
  have HBn : Hid (Below W1.heap.size W1 W9) := Lib.hid ((show Below W1.heap.size W1 _ from (by repeat (first | with_reducible exact Below.refl _ _ | with_reducible exact HB.out | (with_reducible refine Below.drew ?_)))).trans (hb.mono (show W1.heap.size ≤ _ from (show Below W1.heap.size W1 _ from (by repeat (first | with_reducible exact Below.refl _ _ | with_reducible exact HB.out | (with_reducible refine Below.drew ?_)))).size)))
  clear hb HB c0_0 c0_1 c0_2 c0_3 c0_4 c0_5 c0_6 c1_0 c1_1 c1_2 c1_3 c2_0 c2_1 c2_2 c2_3
  have HB := HBn
  clear HBn
  obtain ⟨c0_0, c0_1, c0_2, c0_3, c0_4, c0_5, c0_6, c1_0, c1_1, c1_2, c1_3, c2_0, c2_1, c2_2, c2_3⟩ := HC.out _ HB.out
  by_cases hf : zf = true
  case neg =>
    rw [show zf = false by simpa using hf]
    clear hf
    go_wp2_with fail
    go_ret
    exact ⟨rfl, HB1.out.trans ((show Below W1.heap.size W1 _ from (by repeat (first | with_reducible exact Below.refl _ _ | with_reducible exact HB.out | (with_reducible refine Below.drew ?_)))).mono HB1.out.size)⟩
  have H6 := Lib.hid (fewRB_iff.1 (HZF.out.symm.trans hf)).1
  rw [hf]
  clear hf HZF D1
  have D2 := Lib.hid (fun (W' : World) (h : Below W1.heap.size W1 W') => fewv_any W' _ _ x (HU.out.below (HB1.out.trans (h.mono HB1.out.size))) HS.out)
  obtain ⟨zf, hzf⟩ : ∃ z, z = fewVB x := ⟨_, rfl⟩
  rw [← hzf] at D2
  have HZF := Lib.hid hzf
  clear hzf
  go_wp2_with fail
  refine (D2.out _ (by repeat (first | with_reducible exact Below.refl _ _ | with_reducible exact HB.out | (with_reducible refine Below.drew ?_)))).mono ?_
  rintro e W9 ⟨rfl, hb⟩
  have HBn : Hid (Below W1.heap.size W1 W9) := Lib.hid ((show Below W1.heap.size W1 _ from (by repeat (first | with_reducible exact Below.refl _ _ | with_reducible exact HB.out | (with_reducible refine Below.drew ?_)))).trans (hb.mono (show W1.heap.size ≤ _ from (show Below W1.heap.size W1 _ from (by repeat (first | with_reducible exact Below.refl _ _ | with_reducible exact HB.out | (with_reducible refine Below.drew ?_)))).size)))
  clear hb HB c0_0 c0_1 c0_2 c0_3 c0_4 c0_5 c0_6 c1_0 c1_1 c1_2 c1_3 c2_0 c2_1 c2_2 c2_3
  have HB := HBn
  clear HBn
  obtain ⟨c0_0, c0_1, c0_2, c0_3, c0_4, c0_5, c0_6, c1_0, c1_1, c1_2, c1_3, c2_0, c2_1, c2_2, c2_3⟩ := HC.out _ HB.out
  by_cases hf : zf = true
  case neg =>
    rw [show zf = false by simpa using hf]
    clear hf
    go_wp2_with fail
    go_ret
    exact ⟨rfl, HB1.out.trans ((show Below W1.heap.size W1 _ from (by repeat (first | with_reducible exact Below.refl _ _ | with_reducible exact HB.out | (with_reducible refine Below.drew ?_)))).mono HB1.out.size)⟩
  have HF := Lib.hid (fewVB_few (HZF.out.symm.trans hf))
  rw [hf]
  clear hf HZF D2
  have D2 := Lib.hid (fun (W' : World) (h : Below W1.heap.size W1 W') => fewv_any W' _ _ y (HV.out.below (HB1.out.trans (h.mono HB1.out.size))) HS2.out)
  obtain ⟨zf, hzf⟩ : ∃ z, z = fewVB y := ⟨_, rfl⟩
  rw [← hzf] at D2
  have HZF := Lib.hid hzf
  clear hzf
  go_wp2_with fail
  refine (D2.out _ (by repeat (first | with_reducible exact Below.refl _ _ | with_reducible exact HB.out | (with_reducible refine Below.drew ?_)))).mono ?_
  rintro e W9 ⟨rfl, hb⟩
  have HBn : Hid (Below W1.heap.size W1 W9) := Lib.hid ((show Below W1.heap.size W1 _ from (by repeat (first | with_reducible exact Below.refl _ _ | with_reducible exact HB.out | (with_reducible refine Below.drew ?_)))).trans (hb.mono (show W1.heap.size ≤ _ from (show Below W1.heap.size W1 _ from (by repeat (first | with_reducible exact Below.refl _ _ | with_reducible exact HB.out | (with_reducible refine Below.drew ?_)))).size)))
  clear hb HB c0_0 c0_1 c0_2 c0_3 c0_4 c0_5 c0_6 c1_0 c1_1 c1_2 c1_3 c2_0 c2_1 c2_2 c2_3
  have HB := HBn
  clear HBn
  obtain ⟨c0_0, c0_1, c0_2, c0_3, c0_4, c0_5, c0_6, c1_0, c1_1, c1_2, c1_3, c2_0, c2_1, c2_2, c2_3⟩ := HC.out _ HB.out
  by_cases hf : zf = true
  case neg =>
    rw [show zf = false by simpa using hf]
    clear hf
    go_wp2_with fail
    go_ret
    exact ⟨rfl, HB1.out.trans ((show Below W1.heap.size W1 _ from (by repeat (first | with_reducible exact Below.refl _ _ | with_reducible exact HB.out | (with_reducible refine Below.drew ?_)))).mono HB1.out.size)⟩
  have HF2 := Lib.hid (fewVB_few (HZF.out.symm.trans hf))
  rw [hf]
  clear hf HZF D2
  obtain ⟨z1, hz1⟩ : ∃ z, z = checkR q x := ⟨_, rfl⟩
  have D4 := Lib.hid (show ∀ W', Below W1.heap.size W1 W' → Calls Try.prog 19 _ W' (RetE z1 W') from fun W' h => by
    have y := check29_any W' _ _ _ _ q x (HR.out.below (HB1.out.trans (h.mono HB1.out.size))) (HU.out.below (HB1.out.trans (h.mono HB1.out.size))) H6.out HF.out
    rw [← hz1] at y; exact y)
  have HZz1 := Lib.hid hz1
  clear hz1
  go_wp2_with fail
  refine (D4.out _ (by repeat (first | with_reducible exact Below.refl _ _ | with_reducible exact HB.out | (with_reducible refine Below.drew ?_)))).mono ?_
  rintro e W9 ⟨rfl, hb⟩
  have HBn : Hid (Below W1.heap.size W1 W9) := Lib.hid ((show Below W1.heap.size W1 _ from (by repeat (first | with_reducible exact Below.refl _ _ | with_reducible exact HB.out | (with_reducible refine Below.drew ?_)))).trans (hb.mono (show W1.heap.size ≤ _ from (show Below W1.heap.size W1 _ from (by repeat (first | with_reducible exact Below.refl _ _ | with_reducible exact HB.out | (with_reducible refine Below.drew ?_)))).size)))
  clear hb HB c0_0 c0_1 c0_2 c0_3 c0_4 c0_5 c0_6 c1_0 c1_1 c1_2 c1_3 c2_0 c2_1 c2_2 c2_3
  have HB := HBn
  clear HBn
  obtain ⟨c0_0, c0_1, c0_2, c0_3, c0_4, c0_5, c0_6, c1_0, c1_1, c1_2, c1_3, c2_0, c2_1, c2_2, c2_3⟩ := HC.out _ HB.out
  by_cases t : z1 = 0
  case neg =>
    have t1 : (z1 != 0) = true := by rw [bne_iff_ne]; exact t
    clear t
    go_wp2_with fail
    go_ret
    exact ⟨rfl, HB1.out.trans ((show Below W1.heap.size W1 _ from (by repeat (first | with_reducible exact Below.refl _ _ | with_reducible exact HB.out | (with_reducible refine Below.drew ?_)))).mono HB1.out.size)⟩
  have HEz1 := Lib.hid (HZz1.out.symm.trans t)
  have t1 : (z1 != 0) = false := by rw [bne_eq_false_iff_eq]; exact t
  clear t HZz1 D4
  obtain ⟨z2, hz2⟩ : ∃ z, z = checkR q y := ⟨_, rfl⟩
  have D4 := Lib.hid (show ∀ W', Below W1.heap.size W1 W' → Calls Try.prog 19 _ W' (RetE z2 W') from fun W' h => by
    have y := check29_any W' _ _ _ _ q y (HR.out.below (HB1.out.trans (h.mono HB1.out.size))) (HV.out.below (HB1.out.trans (h.mono HB1.out.size))) H6.out HF2.out
    rw [← hz2] at y; exact y)
  have HZz2 := Lib.hid hz2
  clear hz2
  go_wp2_with fail
  refine (D4.out _ (by repeat (first | with_reducible exact Below.refl _ _ | with_reducible exact HB.out | (with_reducible refine Below.drew ?_)))).mono ?_
  rintro e W9 ⟨rfl, hb⟩
  have HBn : Hid (Below W1.heap.size W1 W9) := Lib.hid ((show Below W1.heap.size W1 _ from (by repeat (first | with_reducible exact Below.refl _ _ | with_reducible exact HB.out | (with_reducible refine Below.drew ?_)))).trans (hb.mono (show W1.heap.size ≤ _ from (show Below W1.heap.size W1 _ from (by repeat (first | with_reducible exact Below.refl _ _ | with_reducible exact HB.out | (with_reducible refine Below.drew ?_)))).size)))
  clear hb HB c0_0 c0_1 c0_2 c0_3 c0_4 c0_5 c0_6 c1_0 c1_1 c1_2 c1_3 c2_0 c2_1 c2_2 c2_3
  have HB := HBn
  clear HBn
  obtain ⟨c0_0, c0_1, c0_2, c0_3, c0_4, c0_5, c0_6, c1_0, c1_1, c1_2, c1_3, c2_0, c2_1, c2_2, c2_3⟩ := HC.out _ HB.out
  by_cases t : z2 = 0
  case neg =>
    have t1 : (z2 != 0) = true := by rw [bne_iff_ne]; exact t
    clear t
    go_wp2_with fail
    go_ret
    exact ⟨rfl, HB1.out.trans ((show Below W1.heap.size W1 _ from (by repeat (first | with_reducible exact Below.refl _ _ | with_reducible exact HB.out | (with_reducible refine Below.drew ?_)))).mono HB1.out.size)⟩
  have HEz2 := Lib.hid (HZz2.out.symm.trans t)
  have t1 : (z2 != 0) = false := by rw [bne_eq_false_iff_eq]; exact t
  clear t HZz2 D4
  have HK := Lib.hid (one_kind HEz1.out HEz2.out)
  obtain ⟨xk, hxk⟩ : ∃ k, k = x.kind := ⟨_, rfl⟩
  obtain ⟨yk, hyk⟩ : ∃ k, k = y.kind := ⟨_, rfl⟩
  rw [← hxk] at HC HK ⊢
  rw [← hyk] at HC HK ⊢
  clear hxk hyk c0_0 c0_1 c0_2 c0_3 c0_4 c0_5 c0_6 c1_0 c1_1 c1_2 c1_3 c2_0 c2_1 c2_2 c2_3
  obtain ⟨c0_0, c0_1, c0_2, c0_3, c0_4, c0_5, c0_6, c1_0, c1_1, c1_2, c1_3, c2_0, c2_1, c2_2, c2_3⟩ := HC.out _ HB.out
  by_cases e1 : xk = yk
  · have b1 : (xk == yk) = true := by rw [beq_iff_eq]; exact e1
    clear e1
    go_wp2_with fail
    go_ret
    exact ⟨rfl, HB1.out.trans ((show Below W1.heap.size W1 _ from (by repeat (first | with_reducible exact Below.refl _ _ | with_reducible exact HB.out | (with_reducible refine Below.drew ?_)))).mono HB1.out.size)⟩
  have b1 : (xk == yk) = false := by rw [beq_eq_false_iff_ne]; exact e1
  by_cases e2 : xk = 4
  · have b2 : (xk == 4) = true := by rw [beq_iff_eq]; exact e2
    clear e1 e2
    go_wp2_with fail
    go_ret
    exact ⟨rfl, HB1.out.trans ((show Below W1.heap.size W1 _ from (by repeat (first | with_reducible exact Below.refl _ _ | with_reducible exact HB.out | (with_reducible refine Below.drew ?_)))).mono HB1.out.size)⟩
  have b2 : (xk == 4) = false := by rw [beq_eq_false_iff_ne]; exact e2
  have b3 : (yk == 4) = true := by rw [beq_iff_eq]; have := HK.out; omega
  clear e1 e2
  go_wp2_with fail
  go_ret
  exact ⟨rfl, HB1.out.trans ((show Below W1.heap.size W1 _ from (by repeat (first | with_reducible exact Below.refl _ _ | with_reducible exact HB.out | (with_reducible refine Below.drew ?_)))).mono HB1.out.size)⟩
end Go.Proofs.Ythlnfjbedehjdaa
