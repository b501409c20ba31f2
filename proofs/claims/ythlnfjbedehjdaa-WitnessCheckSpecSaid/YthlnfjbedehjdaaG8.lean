/- shown of the reference. -/
import Derived.Test.YthlnfjbedehjdaaG6
import Derived.Test.YthlnfjbedehjdaaC10
import Derived.Test.YthlnfjbedehjdaaZg
import Derived.BigQuiet
namespace Go.Proofs.Ythlnfjbedehjdaa
open Go.RowKit Go.Deep Go.Shelf

set_option maxRecDepth 20000 in
set_option maxHeartbeats 4000000 in
theorem rshown_any (w : World) (M M' : Nat → Prop) (v u : Value) (q : RaceD) (x : VerD) (h : IsRace w M v q) (h' : IsVer w M' u x) (hv : ValidR q) (h6 : q.clubs.length ≤ 6) (hf : FewV x) : Calls Try.prog 37 #[v, u] w fun e w' => e = .returned (.bool (kindB q x)) ∧ Below w.heap.size w w' := by
  obtain ⟨cA, cc, pA, pc, oA, oc, rfl, -⟩ := h.parts
  obtain ⟨rA, rc, mA, mc, tA, tc, rfl, i1, i2, i3⟩ := h'.parts
  have hlr : x.reached.length ≤ 1000000 := hf.r
  have hlm : x.missed.length ≤ 1000000 := hf.m
  have hlc : x.cuts.length ≤ 1000000 := hf.c
  have D1 := Lib.hid (fun (W : World) (hB : Below w.heap.size w W) => Lib.hid (rreached_any W M M' _ _ q x.reached (h.below hB) (IsSl.below i1 hB) (by omega)))
  have D2 := Lib.hid (fun (W : World) (hB : Below w.heap.size w W) => Lib.hid (rmissed_any W M M' _ _ q x.missed (h.below hB) (IsSl.below i2 hB) (by omega)))
  have D3 := Lib.hid (fun (W : World) (hB : Below w.heap.size w W) => Lib.hid (rbyFlow_any W M _ q (h.below hB) hv.size h6))
  have D4 := Lib.hid (fun (W : World) (hB : Below w.heap.size w W) => Lib.hid (rbySearch_any W M _ q (h.below hB) (by have := hv.size.opn; omega)))
  have D5 := Lib.hid (fun (W : World) (hB : Below w.heap.size w W) (b : Bool) => Lib.hid (rcuts_any W M M' _ _ q b x.cuts (h.below hB) (i3.below hB) hv h6 hlc hf.cut))
  have D6 := Lib.hid (fun (W : World) (hB : Below w.heap.size w W) (b : Bool) => Lib.hid (ralways_any W M _ q b (h.below hB) hv))
  clear h h' hv h6 hf i1 i2 i3
  obtain ⟨z, hz⟩ : ∃ z, z = kindB q x := ⟨_, rfl⟩
  have HZ := Lib.hid hz
  rw [← hz]
  clear hz
  go_enter Try.func37, Try.ntmps37
  go_upto_region 1 with fail
  refine nameC fun W1 hW1 => ?_
  have hb1 : Below w.heap.size w W1 := by rw [hW1.out]; exact ((Below.refl _ _).alloc (Nat.le_refl _) _).alloc (by simp) _
  have k0 : W1.heap[w.heap.size]? = some (.cells #[.int .i64 q.win, .int .i64 q.draw, .slice cA q.clubs.length cc, .slice pA q.points.length pc, .slice oA q.opn.length oc, .int .i64 q.club, .int .i64 q.place] 25 (0, 0)) := by rw [hW1.out, heap_alloc_if, if_neg (by simp)]; exact heap_alloc_new _ _
  have k1 : W1.heap[w.heap.size + 1]? = some (.cells #[.int .i64 x.kind, .slice rA x.reached.length rc, .slice mA x.missed.length mc, .slice tA x.cuts.length tc] 35 (0, 0)) := by rw [hW1.out, heap_alloc_if, if_pos (by simp)]
  obtain ⟨B1, hB1⟩ : ∃ B1, B1 = w.heap.size + 1 := ⟨_, rfl⟩
  rw [← hB1] at k1 ⊢
  have HC := Lib.hid (show ∀ W', Below W1.heap.size W1 W' → (W'.cell? ⟨w.heap.size, 0, none⟩ = some (.int .i64 q.win) ∧ W'.cell? ⟨w.heap.size, 1, none⟩ = some (.int .i64 q.draw) ∧ W'.cell? ⟨w.heap.size, 2, none⟩ = some (.slice cA q.clubs.length cc) ∧ W'.cell? ⟨w.heap.size, 3, none⟩ = some (.slice pA q.points.length pc) ∧ W'.cell? ⟨w.heap.size, 4, none⟩ = some (.slice oA q.opn.length oc) ∧ W'.cell? ⟨w.heap.size, 5, none⟩ = some (.int .i64 q.club) ∧ W'.cell? ⟨w.heap.size, 6, none⟩ = some (.int .i64 q.place) ∧ W'.cell? ⟨B1, 0, none⟩ = some (.int .i64 x.kind) ∧ W'.cell? ⟨B1, 1, none⟩ = some (.slice rA x.reached.length rc) ∧ W'.cell? ⟨B1, 2, none⟩ = some (.slice mA x.missed.length mc) ∧ W'.cell? ⟨B1, 3, none⟩ = some (.slice tA x.cuts.length tc)) from fun W' h => by
    have e0 := (h.block _ (lt_heap k0)).trans k0
    have e1 := (h.block _ (lt_heap k1)).trans k1
    exact ⟨cell_of e0 rfl, cell_of e0 rfl, cell_of e0 rfl, cell_of e0 rfl, cell_of e0 rfl, cell_of e0 rfl, cell_of e0 rfl, cell_of e1 rfl, cell_of e1 rfl, cell_of e1 rfl, cell_of e1 rfl⟩)
  clear hW1 k0 k1 hB1
  have HB1 := Lib.hid hb1
  clear hb1
  obtain ⟨r0, r1, r2, r3, r4, r5, r6, c0, c1, c2, c3⟩ := HC.out _ (Below.refl _ _)
  have HKB := Lib.hid (show z = if x.kind = 1 then shownB q true x else if x.kind = 2 then shownB q false x else if x.kind = 3 then openB q x else if x.kind = 4 then unknownB q x else false from HZ.out)
  obtain ⟨za, hza⟩ : ∃ y, y = reachedR q x.reached := ⟨_, rfl⟩
  obtain ⟨zb, hzb⟩ : ∃ y, y = missedR q x.missed := ⟨_, rfl⟩
  have HOP := Lib.hid (show openB q x = (decide (x.cuts.length = 0) && (decide (za = 0) && decide (zb = 0))) by rw [hza, hzb]; rfl)
  have HSH := Lib.hid (show ∀ b, shownB q b x = ((decide (x.reached.length = 0) && decide (x.missed.length = 0)) && (if halvesB q then cutsB q b x.cuts else (decide (x.cuts.length = 0) && decide (q.opn.length ≤ 8)) && alwaysB q b)) from fun _ => rfl)
  have HUN := Lib.hid (show unknownB q x = (decide (x.reached.length + x.missed.length + x.cuts.length = 0) && (!halvesB q && !decide (q.opn.length ≤ 8))) from rfl)
  rw [← hza] at D1
  rw [← hzb] at D2
  obtain ⟨kd, hkd⟩ : ∃ y, y = x.kind := ⟨_, rfl⟩
  obtain ⟨nr, hnr⟩ : ∃ y, y = x.reached.length := ⟨_, rfl⟩
  obtain ⟨nm, hnm⟩ : ∃ y, y = x.missed.length := ⟨_, rfl⟩
  obtain ⟨nc, hnc⟩ : ∃ y, y = x.cuts.length := ⟨_, rfl⟩
  rw [← hkd] at HKB c0 HC ⊢
  rw [← hnr] at D1 hlr c1 HC HSH HUN ⊢
  rw [← hnm] at D2 hlm c2 HC HSH HUN ⊢
  rw [← hnc] at D5 hlc c3 HC HOP HSH HUN ⊢
  clear hza hzb hkd hnr hnm hnc
  obtain ⟨al, hal⟩ : ∃ y, y = (decide (nr = 0) && decide (nm = 0)) := ⟨_, rfl⟩
  have HAL := Lib.hid hal
  clear hal
  go_cut [5] (fun s5 W => s5 = .bool al ∧ Hid (Below W1.heap.size W1 W))
  case first =>
    by_cases a1 : nr = 0
    · have b1 : ((nr : Int) == 0) = true := by rw [beq_iff_eq]; omega
      by_cases a2 : nm = 0
      · have b2 : ((nm : Int) == 0) = true := by rw [beq_iff_eq]; omega
        have HQ := Lib.hid (show al = true by rw [HAL.out, decide_eq_true a1, decide_eq_true a2]; rfl)
        clear a1 a2
        go_wp2_with fail
        go_meet
        case rel => exact ⟨by rw [HQ.out], Lib.hid (by repeat (first | with_reducible exact Below.refl _ _ | (with_reducible refine Below.drew ?_)))⟩
      · have b2 : ((nm : Int) == 0) = false := by rw [beq_eq_false_iff_ne]; omega
        have HQ := Lib.hid (show al = false by rw [HAL.out, decide_eq_true a1, decide_eq_false a2]; rfl)
        clear a1 a2
        go_wp2_with fail
        go_meet
        case rel => exact ⟨by rw [HQ.out], Lib.hid (by repeat (first | with_reducible exact Below.refl _ _ | (with_reducible refine Below.drew ?_)))⟩
    · have b1 : ((nr : Int) == 0) = false := by rw [beq_eq_false_iff_ne]; omega
      have HQ := Lib.hid (show al = false by rw [HAL.out, decide_eq_false a1]; rfl)
      clear a1
      go_wp2_with fail
      go_meet
      case rel => exact ⟨by rw [HQ.out], Lib.hid (by repeat (first | with_reducible exact Below.refl _ _ | (with_reducible refine Below.drew ?_)))⟩
  case rest =>
    obtain ⟨rfl, HB⟩ := hcut
    clear r0 r1 r2 r3 r4 r5 r6 c0 c1 c2 c3
    obtain ⟨r0, r1, r2, r3, r4, r5, r6, c0, c1, c2, c3⟩ := HC.out _ HB.out
    by_cases k3 : kd = 3
    · have b3 : (kd == 3) = true := by rw [beq_iff_eq]; exact k3
      have HZ3 := Lib.hid (show z = openB q x by rw [HKB.out, if_neg (by omega), if_neg (by omega), if_pos k3])
      clear k3
      by_cases a3 : nc = 0
      · have b4 : ((nc : Int) == 0) = true := by rw [beq_iff_eq]; omega
        have A3 := Lib.hid a3
        clear a3
        go_wp2_with fail
        refine (D1.out _ (HB1.out.trans (HB.out.mono HB1.out.size))).out.mono ?_
        rintro e W9 ⟨rfl, hb⟩
        clear r0 r1 r2 r3 r4 r5 r6 c0 c1 c2 c3
        have HBn := Lib.hid (HB.out.trans (hb.mono HB.out.size))
        clear hb HB
        have HB := HBn
        clear HBn
        obtain ⟨r0, r1, r2, r3, r4, r5, r6, c0, c1, c2, c3⟩ := HC.out _ HB.out
        by_cases g1 : za = 0
        · have b5 : (za == 0) = true := by rw [beq_iff_eq]; exact g1
          have G1 := Lib.hid g1
          clear g1
          go_wp2_with fail
          refine (D2.out _ (HB1.out.trans (HB.out.mono HB1.out.size))).out.mono ?_
          rintro e W8 ⟨rfl, hb⟩
          clear r0 r1 r2 r3 r4 r5 r6 c0 c1 c2 c3
          have HBn := Lib.hid (HB.out.trans (hb.mono HB.out.size))
          clear hb HB
          have HB := HBn
          clear HBn
          obtain ⟨r0, r1, r2, r3, r4, r5, r6, c0, c1, c2, c3⟩ := HC.out _ HB.out
          by_cases g2 : zb = 0
          · have b6 : (zb == 0) = true := by rw [beq_iff_eq]; exact g2
            have HQ := Lib.hid (show z = true by rw [HZ3.out, HOP.out, decide_eq_true A3.out, decide_eq_true G1.out, decide_eq_true g2]; rfl)
            clear g2
            go_wp2_with fail
            go_ret
            exact ⟨ret_bool HQ.out.symm, HB1.out.trans (HB.out.mono HB1.out.size)⟩
          · have b6 : (zb == 0) = false := by rw [beq_eq_false_iff_ne]; exact g2
            have HQ := Lib.hid (show z = false by rw [HZ3.out, HOP.out, decide_eq_true A3.out, decide_eq_true G1.out, decide_eq_false g2]; rfl)
            clear g2
            go_wp2_with fail
            go_ret
            exact ⟨ret_bool HQ.out.symm, HB1.out.trans (HB.out.mono HB1.out.size)⟩
        · have b5 : (za == 0) = false := by rw [beq_eq_false_iff_ne]; exact g1
          have HQ := Lib.hid (show z = false by rw [HZ3.out, HOP.out, decide_eq_true A3.out, decide_eq_false g1]; rfl)
          clear g1
          go_wp2_with fail
          go_ret
          exact ⟨ret_bool HQ.out.symm, HB1.out.trans (HB.out.mono HB1.out.size)⟩
      · have b4 : ((nc : Int) == 0) = false := by rw [beq_eq_false_iff_ne]; omega
        have HQ := Lib.hid (show z = false by rw [HZ3.out, HOP.out, decide_eq_false a3]; rfl)
        clear a3
        go_wp2_with fail
        go_ret
        exact ⟨ret_bool HQ.out.symm, HB1.out.trans (HB.out.mono HB1.out.size)⟩
    · have b3 : (kd == 3) = false := by rw [beq_eq_false_iff_ne]; exact k3
      by_cases k1 : kd = 1
      · have b1 : (kd == 1) = true := by rw [beq_iff_eq]; exact k1
        have HZ3 := Lib.hid (show z = shownB q true x by rw [HKB.out, if_pos k1])
        clear k1 k3
        have HZ4 := Lib.hid (show z = (al && (if halvesB q then cutsB q true x.cuts else (decide (nc = 0) && decide (q.opn.length ≤ 8)) && alwaysB q true)) by rw [HZ3.out, HSH.out, HAL.out])
        clear HAL
        go_wp2_with fail
        refine (D3.out _ (HB1.out.trans (HB.out.mono HB1.out.size))).out.mono ?_
        rintro e W11 ⟨rfl, hb⟩
        clear r0 r1 r2 r3 r4 r5 r6 c0 c1 c2 c3
        have HBn := Lib.hid (HB.out.trans (hb.mono HB.out.size))
        clear hb HB
        have HB := HBn
        clear HBn
        obtain ⟨r0, r1, r2, r3, r4, r5, r6, c0, c1, c2, c3⟩ := HC.out _ HB.out
        by_cases hh : halvesB q = true
        · rw [hh] at HZ4 ⊢
          clear hh
          cases al
          · have HQ := Lib.hid (show z = false by rw [HZ4.out]; rfl)
            go_wp2_with fail
            go_ret
            exact ⟨ret_bool HQ.out.symm, HB1.out.trans (HB.out.mono HB1.out.size)⟩
          · go_wp2_with fail
            refine (D5.out _ (HB1.out.trans (HB.out.mono HB1.out.size)) true).out.mono ?_
            rintro e W12 ⟨rfl, hb⟩
            clear r0 r1 r2 r3 r4 r5 r6 c0 c1 c2 c3
            have HBn := Lib.hid (HB.out.trans (hb.mono HB.out.size))
            clear hb HB
            have HB := HBn
            clear HBn
            obtain ⟨r0, r1, r2, r3, r4, r5, r6, c0, c1, c2, c3⟩ := HC.out _ HB.out
            have HQ := Lib.hid (show z = cutsB q true x.cuts by rw [HZ4.out]; rfl)
            go_wp2_with fail
            go_ret
            exact ⟨ret_bool HQ.out.symm, HB1.out.trans (HB.out.mono HB1.out.size)⟩
        · rw [show halvesB q = false by simpa using hh] at HZ4 ⊢
          clear hh
          cases al
          · have HQ := Lib.hid (show z = false by rw [HZ4.out]; rfl)
            go_wp2_with fail
            go_ret
            exact ⟨ret_bool HQ.out.symm, HB1.out.trans (HB.out.mono HB1.out.size)⟩
          · by_cases a3 : nc = 0
            · have b4 : ((nc : Int) == 0) = true := by rw [beq_iff_eq]; omega
              have A3 := Lib.hid a3
              clear a3
              go_wp2_with fail
              refine (D4.out _ (HB1.out.trans (HB.out.mono HB1.out.size))).out.mono ?_
              rintro e W13 ⟨rfl, hb⟩
              clear r0 r1 r2 r3 r4 r5 r6 c0 c1 c2 c3
              have HBn := Lib.hid (HB.out.trans (hb.mono HB.out.size))
              clear hb HB
              have HB := HBn
              clear HBn
              obtain ⟨r0, r1, r2, r3, r4, r5, r6, c0, c1, c2, c3⟩ := HC.out _ HB.out
              by_cases g8 : q.opn.length ≤ 8
              · rw [decide_eq_true g8]
                have G8 := Lib.hid g8
                clear g8
                go_wp2_with fail
                refine (D6.out _ (HB1.out.trans (HB.out.mono HB1.out.size)) true).out.mono ?_
                rintro e W14 ⟨rfl, hb⟩
                clear r0 r1 r2 r3 r4 r5 r6 c0 c1 c2 c3
                have HBn := Lib.hid (HB.out.trans (hb.mono HB.out.size))
                clear hb HB
                have HB := HBn
                clear HBn
                obtain ⟨r0, r1, r2, r3, r4, r5, r6, c0, c1, c2, c3⟩ := HC.out _ HB.out
                have HQ := Lib.hid (show z = alwaysB q true by rw [HZ4.out, decide_eq_true A3.out, decide_eq_true G8.out]; rfl)
                go_wp2_with fail
                go_ret
                exact ⟨ret_bool HQ.out.symm, HB1.out.trans (HB.out.mono HB1.out.size)⟩
              · rw [decide_eq_false g8]
                have HQ := Lib.hid (show z = false by rw [HZ4.out, decide_eq_true A3.out, decide_eq_false g8]; rfl)
                clear g8
                go_wp2_with fail
                go_ret
                exact ⟨ret_bool HQ.out.symm, HB1.out.trans (HB.out.mono HB1.out.size)⟩
            · have b4 : ((nc : Int) == 0) = false := by rw [beq_eq_false_iff_ne]; omega
              have HQ := Lib.hid (show z = false by rw [HZ4.out, decide_eq_false a3]; rfl)
              clear a3
              go_wp2_with fail
              go_ret
              exact ⟨ret_bool HQ.out.symm, HB1.out.trans (HB.out.mono HB1.out.size)⟩
      by_cases k2 : kd = 2
      · have b1 : (kd == 1) = false := by rw [beq_eq_false_iff_ne]; exact k1
        have b2 : (kd == 2) = true := by rw [beq_iff_eq]; exact k2
        have HZ3 := Lib.hid (show z = shownB q false x by rw [HKB.out, if_neg k1, if_pos k2])
        clear k1 k2 k3
        have HZ4 := Lib.hid (show z = (al && (if halvesB q then cutsB q false x.cuts else (decide (nc = 0) && decide (q.opn.length ≤ 8)) && alwaysB q false)) by rw [HZ3.out, HSH.out, HAL.out])
        clear HAL
        go_wp2_with fail
        refine (D3.out _ (HB1.out.trans (HB.out.mono HB1.out.size))).out.mono ?_
        rintro e W11 ⟨rfl, hb⟩
        clear r0 r1 r2 r3 r4 r5 r6 c0 c1 c2 c3
        have HBn := Lib.hid (HB.out.trans (hb.mono HB.out.size))
        clear hb HB
        have HB := HBn
        clear HBn
        obtain ⟨r0, r1, r2, r3, r4, r5, r6, c0, c1, c2, c3⟩ := HC.out _ HB.out
        by_cases hh : halvesB q = true
        · rw [hh] at HZ4 ⊢
          clear hh
          cases al
          · have HQ := Lib.hid (show z = false by rw [HZ4.out]; rfl)
            go_wp2_with fail
            go_ret
            exact ⟨ret_bool HQ.out.symm, HB1.out.trans (HB.out.mono HB1.out.size)⟩
          · go_wp2_with fail
            refine (D5.out _ (HB1.out.trans (HB.out.mono HB1.out.size)) false).out.mono ?_
            rintro e W12 ⟨rfl, hb⟩
            clear r0 r1 r2 r3 r4 r5 r6 c0 c1 c2 c3
            have HBn := Lib.hid (HB.out.trans (hb.mono HB.out.size))
            clear hb HB
            have HB := HBn
            clear HBn
            obtain ⟨r0, r1, r2, r3, r4, r5, r6, c0, c1, c2, c3⟩ := HC.out _ HB.out
            have HQ := Lib.hid (show z = cutsB q false x.cuts by rw [HZ4.out]; rfl)
            go_wp2_with fail
            go_ret
            exact ⟨ret_bool HQ.out.symm, HB1.out.trans (HB.out.mono HB1.out.size)⟩
        · rw [show halvesB q = false by simpa using hh] at HZ4 ⊢
          clear hh
          cases al
          · have HQ := Lib.hid (show z = false by rw [HZ4.out]; rfl)
            go_wp2_with fail
            go_ret
            exact ⟨ret_bool HQ.out.symm, HB1.out.trans (HB.out.mono HB1.out.size)⟩
          · by_cases a3 : nc = 0
            · have b4 : ((nc : Int) == 0) = true := by rw [beq_iff_eq]; omega
              have A3 := Lib.hid a3
              clear a3
              go_wp2_with fail
              refine (D4.out _ (HB1.out.trans (HB.out.mono HB1.out.size))).out.mono ?_
              rintro e W13 ⟨rfl, hb⟩
              clear r0 r1 r2 r3 r4 r5 r6 c0 c1 c2 c3
              have HBn := Lib.hid (HB.out.trans (hb.mono HB.out.size))
              clear hb HB
              have HB := HBn
              clear HBn
              obtain ⟨r0, r1, r2, r3, r4, r5, r6, c0, c1, c2, c3⟩ := HC.out _ HB.out
              by_cases g8 : q.opn.length ≤ 8
              · rw [decide_eq_true g8]
                have G8 := Lib.hid g8
                clear g8
                go_wp2_with fail
                refine (D6.out _ (HB1.out.trans (HB.out.mono HB1.out.size)) false).out.mono ?_
                rintro e W14 ⟨rfl, hb⟩
                clear r0 r1 r2 r3 r4 r5 r6 c0 c1 c2 c3
                have HBn := Lib.hid (HB.out.trans (hb.mono HB.out.size))
                clear hb HB
                have HB := HBn
                clear HBn
                obtain ⟨r0, r1, r2, r3, r4, r5, r6, c0, c1, c2, c3⟩ := HC.out _ HB.out
                have HQ := Lib.hid (show z = alwaysB q false by rw [HZ4.out, decide_eq_true A3.out, decide_eq_true G8.out]; rfl)
                go_wp2_with fail
                go_ret
                exact ⟨ret_bool HQ.out.symm, HB1.out.trans (HB.out.mono HB1.out.size)⟩
              · rw [decide_eq_false g8]
                have HQ := Lib.hid (show z = false by rw [HZ4.out, decide_eq_true A3.out, decide_eq_false g8]; rfl)
                clear g8
                go_wp2_with fail
                go_ret
                exact ⟨ret_bool HQ.out.symm, HB1.out.trans (HB.out.mono HB1.out.size)⟩
            · have b4 : ((nc : Int) == 0) = false := by rw [beq_eq_false_iff_ne]; omega
              have HQ := Lib.hid (show z = false by rw [HZ4.out, decide_eq_false a3]; rfl)
              clear a3
              go_wp2_with fail
              go_ret
              exact ⟨ret_bool HQ.out.symm, HB1.out.trans (HB.out.mono HB1.out.size)⟩
      have b1 : (kd == 1) = false := by rw [beq_eq_false_iff_ne]; exact k1
      have b2 : (kd == 2) = false := by rw [beq_eq_false_iff_ne]; exact k2
      by_cases k4 : kd = 4
      · have b5 : (kd == 4) = true := by rw [beq_iff_eq]; exact k4
        have HZ4 := Lib.hid (show z = (decide (nr + nm + nc = 0) && (!halvesB q && !decide (q.opn.length ≤ 8))) by rw [HKB.out, if_neg k1, if_neg k2, if_neg k3, if_pos k4]; exact HUN.out)
        clear k1 k2 k3 k4
        cases al
        · have HQ := Lib.hid (show z = false by
            have := HAL.out
            rw [HZ4.out]
            rw [show decide (nr + nm + nc = 0) = false from decide_eq_false (fun e => by rw [decide_eq_true (show nr = 0 by omega), decide_eq_true (show nm = 0 by omega)] at this; cases this)]
            rfl)
          go_wp2_with fail
          go_ret
          exact ⟨ret_bool HQ.out.symm, HB1.out.trans (HB.out.mono HB1.out.size)⟩
        · have HA2 := Lib.hid (show nr = 0 ∧ nm = 0 by have := HAL.out; simpa using this.symm)
          by_cases a3 : nc = 0
          · have b4 : ((nc : Int) == 0) = true := by rw [beq_iff_eq]; omega
            have HZ5 := Lib.hid (show z = (!halvesB q && !decide (q.opn.length ≤ 8)) by rw [HZ4.out, decide_eq_true (show nr + nm + nc = 0 by have := HA2.out; omega)]; rfl)
            clear a3
            go_wp2_with fail
            refine (D3.out _ (HB1.out.trans (HB.out.mono HB1.out.size))).out.mono ?_
            rintro e W15 ⟨rfl, hb⟩
            clear r0 r1 r2 r3 r4 r5 r6 c0 c1 c2 c3
            have HBn := Lib.hid (HB.out.trans (hb.mono HB.out.size))
            clear hb HB
            have HB := HBn
            clear HBn
            obtain ⟨r0, r1, r2, r3, r4, r5, r6, c0, c1, c2, c3⟩ := HC.out _ HB.out
            by_cases hh : halvesB q = true
            · rw [hh] at HZ5 ⊢
              clear hh
              have HQ := Lib.hid (show z = false by rw [HZ5.out]; rfl)
              go_wp2_with fail
              go_ret
              exact ⟨ret_bool HQ.out.symm, HB1.out.trans (HB.out.mono HB1.out.size)⟩
            · rw [show halvesB q = false by simpa using hh] at HZ5 ⊢
              clear hh
              go_wp2_with fail
              refine (D4.out _ (HB1.out.trans (HB.out.mono HB1.out.size))).out.mono ?_
              rintro e W16 ⟨rfl, hb⟩
              clear r0 r1 r2 r3 r4 r5 r6 c0 c1 c2 c3
              have HBn := Lib.hid (HB.out.trans (hb.mono HB.out.size))
              clear hb HB
              have HB := HBn
              clear HBn
              obtain ⟨r0, r1, r2, r3, r4, r5, r6, c0, c1, c2, c3⟩ := HC.out _ HB.out
              by_cases g8 : q.opn.length ≤ 8
              · rw [decide_eq_true g8] at HZ5 ⊢
                clear g8
                have HQ := Lib.hid (show z = false by rw [HZ5.out]; rfl)
                go_wp2_with fail
                go_ret
                exact ⟨ret_bool HQ.out.symm, HB1.out.trans (HB.out.mono HB1.out.size)⟩
              · rw [decide_eq_false g8] at HZ5 ⊢
                clear g8
                have HQ := Lib.hid (show z = true by rw [HZ5.out]; rfl)
                go_wp2_with fail
                go_ret
                exact ⟨ret_bool HQ.out.symm, HB1.out.trans (HB.out.mono HB1.out.size)⟩
          · have b4 : ((nc : Int) == 0) = false := by rw [beq_eq_false_iff_ne]; omega
            have HQ := Lib.hid (show z = false by rw [HZ4.out, decide_eq_false (show ¬ nr + nm + nc = 0 by omega)]; rfl)
            clear a3
            go_wp2_with fail
            go_ret
            exact ⟨ret_bool HQ.out.symm, HB1.out.trans (HB.out.mono HB1.out.size)⟩
      · have b5 : (kd == 4) = false := by rw [beq_eq_false_iff_ne]; exact k4
        have HQ := Lib.hid (show z = false by rw [HKB.out, if_neg k1, if_neg k2, if_neg k3, if_neg k4])
        clear k1 k2 k3 k4
        go_wp2_with fail
        go_ret
        exact ⟨ret_bool HQ.out.symm, HB1.out.trans (HB.out.mono HB1.out.size)⟩
end Go.Proofs.Ythlnfjbedehjdaa
