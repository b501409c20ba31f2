/- reached. -/
import Derived.Test.YtolappaekjdcgaaA10
namespace Go.Proofs.Ytolappaekjdcgaa
open Go.RowKit Go.Shelf Go.Deep Sm
def ReachW (w : World) (g : GrD) (L R : Nat) (lf rf : Nat → Int) (e : Ending) (w' : World) : Prop :=
  ∃ ml mr Sl Sr nl nr, e = .returned (.tuple #[.map (some ml), .map (some mr)]) ∧ SetB Try.prog 3 4 .i64 w' ml nl Sl ∧ SetB Try.prog 3 4 .i64 w' mr nr Sr ∧ Rd (edB g) L R lf rf (Sn Sl) (Sn Sr) L ∧ Below w.heap.size w w'
theorem heap_new {w : World} {o : Obj} {k : Nat} (h : k = w.heap.size) : (w.alloc o).heap[k]? = some o := by rw [heap_alloc_if, if_pos h]
theorem SetB.ofHeap {P : Program} {kt et : TypeId} {q : IntKind} {w : World} {b : Nat} (hb : w.heap[b]? = some (.map #[] 0)) : SetB P kt et q w b 0 (fun _ => false) := by
  obtain ⟨D, ⟨es, clock, hbb, F, hsz, hD⟩, hs⟩ := SetB.made (P := P) (kt := kt) (et := et) (q := q) w
  rw [heap_alloc_if, if_pos rfl] at hbb
  exact ⟨D, ⟨es, clock, hb.trans hbb, F, hsz, hD⟩, hs⟩
/-- reached on its way -/
structure RL (w wr : World) (g : GrD) (bl br L R : Nat) (lf rf : Nat → Int) (k : Nat) : Prop where
  bel : Below w.heap.size w wr
  vw : VW w.heap.size wr g (w.heap.size + 1 + 1) w.heap.size (w.heap.size + 1 + 1 + 1) (w.heap.size + 1) (w.heap.size + 1 + 1 + 1 + 1 + 1 + 1) (w.heap.size + 1 + 1 + 1 + 1) (w.heap.size + 1 + 1 + 1 + 1 + 1) bl br L R rf
  st : ∃ Sl Sr, XW wr (w.heap.size + 1 + 1 + 1 + 1) (w.heap.size + 1 + 1 + 1 + 1 + 1) L 2097152 Sl Sr ∧ Rd (edB g) L R lf rf (Sn Sl) (Sn Sr) k
set_option maxHeartbeats 4000000 in
theorem reached_any (w : World) (M : Nat → Prop) (v : Value) (g : GrD) (h : IsGraph w M v g) {bl br L R : Nat} (hg : GOk g L R) {lf rf : Nat → Int} (hm : MatW w bl br L R lf rf) (hi : MInv (edB g) L R lf rf) : Calls Try.prog 30 #[v, matV bl br L R] w (ReachW w g L R lf rf) := by
  obtain ⟨v2, rfl, h2⟩ := h
  have HE := Lib.hid h2
  have HG := Lib.hid hg
  have HM := Lib.hid hm
  have HI := Lib.hid hi
  have hL512 := hg.l512
  have hbl := hm.2.1.lt
  have hbr := hm.2.2.lt
  have hmm := @run_makeMap Try.prog
  unfold matV
  clear h2 hg hm hi
  go_enter Try.func30, Try.ntmps30
  go_upto_region 4 with fail
  refine nameC fun W4 hW4 => ?_
  have hB4 : Below w.heap.size w W4 := by rw [hW4.out]; repeat (first | exact Below.refl _ _ | refine Below.alloc ?_ (by first | exact Nat.le_refl _ | (simp; done) | (simp; omega)) _)
  have hg4 : W4.heap[w.heap.size]? = some (.cells #[.int .i64 g.left, .int .i64 g.right, v2] 24 (0, 0)) := by rw [hW4.out]; (repeat (first | ((refine heap_new ?_); (focus (first | rfl | (simp; done)))) | (refine heap_alloc_keep ?_ _)))
  have hm4 : W4.heap[w.heap.size + 1]? = some (.cells #[.slice (some ⟨bl, 0, none⟩) L L, .slice (some ⟨br, 0, none⟩) R R] 54 (0, 0)) := by rw [hW4.out]; (repeat (first | ((refine heap_new ?_); (focus (first | rfl | (simp; done)))) | (refine heap_alloc_keep ?_ _)))
  have hl4 : W4.heap[w.heap.size + 1 + 1]? = some (.cells #[.map (some (w.heap.size + 1 + 1 + 1 + 1))] 49 (0, 0)) := by rw [hW4.out]; (repeat (first | ((refine heap_new ?_); (focus (first | rfl | (simp; done)))) | (refine heap_alloc_keep ?_ _)))
  have hr4 : W4.heap[w.heap.size + 1 + 1 + 1]? = some (.cells #[.map (some (w.heap.size + 1 + 1 + 1 + 1 + 1))] 49 (0, 0)) := by rw [hW4.out]; (repeat (first | ((refine heap_new ?_); (focus (first | rfl | (simp; done)))) | (refine heap_alloc_keep ?_ _)))
  have hx4 : W4.heap[w.heap.size + 1 + 1 + 1 + 1]? = some (.map #[] 0) := by rw [hW4.out]; (repeat (first | ((refine heap_new ?_); (focus (first | rfl | (simp; done)))) | (refine heap_alloc_keep ?_ _)))
  have hy4 : W4.heap[w.heap.size + 1 + 1 + 1 + 1 + 1]? = some (.map #[] 0) := by rw [hW4.out]; (repeat (first | ((refine heap_new ?_); (focus (first | rfl | (simp; done)))) | (refine heap_alloc_keep ?_ _)))
  have hf4 : W4.heap[w.heap.size + 1 + 1 + 1 + 1 + 1 + 1]? = some (.cells #[.func (.func 37) #[] #[ptr (w.heap.size + 1 + 1), ptr w.heap.size, ptr (w.heap.size + 1 + 1 + 1), ptr (w.heap.size + 1), ptr (w.heap.size + 1 + 1 + 1 + 1 + 1 + 1)]] 64 (0, 0)) := by rw [hW4.out]; (repeat (first | ((refine heap_new ?_); (focus (first | rfl | (simp; done)))) | (refine heap_alloc_keep ?_ _)))
  have hge : IsEdges w (NB [w.heap.size + 1 + 1 + 1 + 1, w.heap.size + 1 + 1 + 1 + 1 + 1]) v2 g.edges := IsSl.mono HE.out (fun b hb _ => by simp [NB]; omega) (by decide)
  have hR4 : RL w W4 g bl br L R lf rf 0 :=
    ⟨hB4, ⟨⟨v2, hg4, IsSl.below hge hB4⟩, hl4, hr4, hm4, hf4, HM.out.2.2.of_block (hB4.block _ hbr), (by first | (simp; done) | (simp; omega)), (by first | (simp; done) | (simp; omega)), (by first | (simp; done) | (simp; omega)), (by first | (simp; done) | (simp; omega)), (by first | (simp; done) | (simp; omega)), (by first | (simp; done) | (simp; omega)), by omega, ⟨by omega, by omega⟩⟩, _, _,
      ⟨⟨0, SetB.ofHeap hx4, by rw [Nat.zero_add]; exact unseen_none L⟩, ⟨0, SetB.ofHeap hy4, by have : unseen (Sn fun _ => false) L ≤ L := unseen_none L; omega⟩⟩, Rd.start⟩
  have c0 : W4.cell? ⟨w.heap.size + 1, 0, none⟩ = some (.slice (some ⟨bl, 0, none⟩) L L) := cell_of hm4 rfl
  have HR4 := Lib.hid hR4
  clear hW4 hB4 hg4 hm4 hl4 hr4 hx4 hy4 hf4 hge hR4 hmm
  go_wp2_with fail
  go_loopw [15] (fun q15 wr => ∃ k : Nat, k ≤ L ∧ q15 = .int .i64 (k : Int) ∧ Hid (RL w wr g bl br L R lf rf k)) (fun q _ => L - (intOf q).toNat)
  case atStart => exact ⟨0, Nat.zero_le _, rfl, HR4⟩
  case round =>
    obtain ⟨k, hk, rfl, HRL⟩ := hrel
    by_cases hlt : k < L
    · have hlt2 : (k : Int) < (L : Int) := by omega
      have hk0 : (0 : Int) ≤ (k : Int) := by omega
      have hck := (HM.out.2.1.of_block (HRL.out.bel.block bl hbl)).cell hlt
      obtain ⟨y, hy⟩ : ∃ y, y = lf k := ⟨_, rfl⟩
      rw [← hy] at hck
      have HY := Lib.hid hy
      clear hy
      obtain ⟨Sl, Sr, hX, hRd⟩ := HRL.out.st
      have HX := Lib.hid hX
      have HRd := Lib.hid hRd
      clear hX hRd
      by_cases hy0 : y < 0
      · have hfb : wr.cell? ⟨w.heap.size + 1 + 1 + 1 + 1 + 1 + 1, 0, none⟩ = some (.func (.func 37) #[] #[ptr (w.heap.size + 1 + 1), ptr w.heap.size, ptr (w.heap.size + 1 + 1 + 1), ptr (w.heap.size + 1), ptr (w.heap.size + 1 + 1 + 1 + 1 + 1 + 1)]) := cell_of HRL.out.vw.fb rfl
        unfold ptr at hfb
        have CW := Lib.hid (walk_any w.heap.size g _ _ _ _ _ _ _ _ _ L R HG.out _ wr 2097152 Sl Sr lf rf k ⟨HRL.out.vw, HX.out, HI.out, hlt, by omega⟩ (Nat.le_refl _))
        go_wp2_with fail
        refine CW.out.mono ?_
        rintro e w9 ⟨Sl9, Sr9, rfl, hk9, hx9, hy9⟩
        have HR9 : Hid (RL w w9 g bl br L R lf rf (k + 1)) := Lib.hid ⟨HRL.out.bel.trans hk9.bel, HRL.out.vw.kp hk9, Sl9, Sr9, hx9, HRd.out.go hlt (by rw [← HY.out]; exact hy0) hy9⟩
        clear hk9 hx9 hy9 hfb hck CW
        go_wp2_with fail
        go_roundw
        case rel => exact ⟨k + 1, by omega, by go_num, HR9⟩
        case measure => simp [intOf]; omega
      · have HR9 : Hid (RL w wr g bl br L R lf rf (k + 1)) := Lib.hid ⟨HRL.out.bel, HRL.out.vw, Sl, Sr, HX.out, HRd.out.skip (by rw [← HY.out]; omega)⟩
        go_wp2_with fail
        go_roundw
        case rel => exact ⟨k + 1, by omega, by go_num, HR9⟩
        case measure => simp [intOf]; omega
    · have hnl : ¬ (k : Int) < (L : Int) := by omega
      obtain rfl : L = k := by omega
      have l0 : wr.cell? ⟨w.heap.size + 1 + 1, 0, none⟩ = some (.map (some (w.heap.size + 1 + 1 + 1 + 1))) := cell_of HRL.out.vw.lb rfl
      have r0 : wr.cell? ⟨w.heap.size + 1 + 1 + 1, 0, none⟩ = some (.map (some (w.heap.size + 1 + 1 + 1 + 1 + 1))) := cell_of HRL.out.vw.rb rfl
      have f0 : wr.frozen? ⟨w.heap.size + 1 + 1, 0, none⟩ = false := frz_at HRL.out.vw.lb
      have f1 : wr.frozen? ⟨w.heap.size + 1 + 1 + 1, 0, none⟩ = false := frz_at HRL.out.vw.rb
      go_wp2_with fail
      go_region
      obtain ⟨Sl, Sr, ⟨⟨nl, x1, -⟩, ⟨nr, x2, -⟩⟩, hRd⟩ := HRL.out.st
      have HX1 : Hid (SetB Try.prog 3 4 .i64 (((wr.setCell ⟨w.heap.size + 1 + 1, 0, none⟩ (.map (some (w.heap.size + 1 + 1 + 1 + 1)))).setCell ⟨w.heap.size + 1 + 1 + 1, 0, none⟩ (.map (some (w.heap.size + 1 + 1 + 1 + 1 + 1)))).drew) (w.heap.size + 1 + 1 + 1 + 1) nl Sl) := Lib.hid (((x1.set (by omega) _ _).set (by omega) _ _).drewN 1)
      have HX2 : Hid (SetB Try.prog 3 4 .i64 (((wr.setCell ⟨w.heap.size + 1 + 1, 0, none⟩ (.map (some (w.heap.size + 1 + 1 + 1 + 1)))).setCell ⟨w.heap.size + 1 + 1 + 1, 0, none⟩ (.map (some (w.heap.size + 1 + 1 + 1 + 1 + 1)))).drew) (w.heap.size + 1 + 1 + 1 + 1 + 1) nr Sr) := Lib.hid (((x2.set (by omega) _ _).set (by omega) _ _).drewN 1)
      have HB : Hid (Below w.heap.size w (((wr.setCell ⟨w.heap.size + 1 + 1, 0, none⟩ (.map (some (w.heap.size + 1 + 1 + 1 + 1)))).setCell ⟨w.heap.size + 1 + 1 + 1, 0, none⟩ (.map (some (w.heap.size + 1 + 1 + 1 + 1 + 1)))).drew)) := Lib.hid ((HRL.out.bel.setCell (by show w.heap.size ≤ w.heap.size + 1 + 1; omega) _).setCell (by show w.heap.size ≤ w.heap.size + 1 + 1 + 1; omega) _).drew
      have hq0 : (((wr.setCell ⟨w.heap.size + 1 + 1, 0, none⟩ (.map (some (w.heap.size + 1 + 1 + 1 + 1)))).setCell ⟨w.heap.size + 1 + 1 + 1, 0, none⟩ (.map (some (w.heap.size + 1 + 1 + 1 + 1 + 1)))).drew).cell? ⟨w.heap.size + 1 + 1, 0, none⟩ = some (.map (some (w.heap.size + 1 + 1 + 1 + 1))) := by
        refine cell_drew (cell_of (cs := #[.map (some (w.heap.size + 1 + 1 + 1 + 1))]) (t := 49) (z := (0, 0)) ?_ rfl)
        rw [heap_set_if, if_neg (by omega), heap_set_if, if_pos rfl, HRL.out.vw.lb]
        rfl
      have hq1 : (((wr.setCell ⟨w.heap.size + 1 + 1, 0, none⟩ (.map (some (w.heap.size + 1 + 1 + 1 + 1)))).setCell ⟨w.heap.size + 1 + 1 + 1, 0, none⟩ (.map (some (w.heap.size + 1 + 1 + 1 + 1 + 1)))).drew).cell? ⟨w.heap.size + 1 + 1 + 1, 0, none⟩ = some (.map (some (w.heap.size + 1 + 1 + 1 + 1 + 1))) := by
        refine cell_drew (cell_of (cs := #[.map (some (w.heap.size + 1 + 1 + 1 + 1 + 1))]) (t := 49) (z := (0, 0)) ?_ rfl)
        rw [heap_set_if, if_pos rfl, heap_set_if, if_neg (by omega), HRL.out.vw.rb]
        rfl
      generalize (((wr.setCell ⟨w.heap.size + 1 + 1, 0, none⟩ (.map (some (w.heap.size + 1 + 1 + 1 + 1)))).setCell ⟨w.heap.size + 1 + 1 + 1, 0, none⟩ (.map (some (w.heap.size + 1 + 1 + 1 + 1 + 1)))).drew) = WE at HX1 HX2 HB hq0 hq1
      clear x1 x2 l0 r0 f0 f1
      go_wp2_with fail
      exact bodyPost_ret (v := .tuple #[.map (some (w.heap.size + 1 + 1 + 1 + 1)), .map (some (w.heap.size + 1 + 1 + 1 + 1 + 1))]) (by simp [results, Try.results30, go_sem, hq0, hq1]) rfl ⟨_, _, Sl, Sr, nl, nr, rfl, HX1.out, HX2.out, hRd, HB.out⟩
end Go.Proofs.Ytolappaekjdcgaa
