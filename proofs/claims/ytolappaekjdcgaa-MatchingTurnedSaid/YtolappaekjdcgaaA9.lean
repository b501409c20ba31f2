/- find: a maximum matching. -/
import Derived.Test.YtolappaekjdcgaaA8
import Derived.Test.YtolappaekjdcgaaL3
import Derived.Laws.EntriesVeiled
namespace Go.Proofs.Ytolappaekjdcgaa
open Go.RowKit Go.Shelf Go.Deep Sm
def FindW (w : World) (g : GrD) (L R : Nat) (e : Ending) (w' : World) : Prop := ∃ bl br lf rf, e = .returned (matV bl br L R) ∧ w.heap.size ≤ bl ∧ w.heap.size ≤ br ∧ MatW w' bl br L R lf rf ∧ FInv (edB g) L R lf rf L ∧ Below w.heap.size w w'
/-- find on its way -/
structure FL (w wr : World) (g : GrD) (v2 : Value) (bl br L R : Nat) (k : Nat) : Prop where
  bel : Below w.heap.size w wr
  gb : wr.heap[w.heap.size]? = some (.cells #[.int .i64 (L : Int), .int .i64 g.right, v2] 24 (0, 0))
  rb : wr.heap[w.heap.size + 1]? = some (.cells #[.slice none 0 0, .slice none 0 0] 54 (0, 0))
  st : ∃ lf rf, MatW wr bl br L R lf rf ∧ FInv (edB g) L R lf rf k
theorem FL.below {w wr W : World} {g : GrD} {v2 : Value} {bl br L R k : Nat} (h : FL w wr g v2 bl br L R k) (hb : Below wr.heap.size wr W) : FL w W g v2 bl br L R k := by
  obtain ⟨h1, h2, h3, lf, rf, ⟨m1, m2, m3⟩, h5⟩ := h
  exact ⟨h1.trans (hb.mono h1.size), (hb.block _ (lt_heap h2)).trans h2, (hb.block _ (lt_heap h3)).trans h3, lf, rf, ⟨m1, m2.of_block (hb.block _ m2.lt), m3.of_block (hb.block _ m3.lt)⟩, h5⟩
set_option maxHeartbeats 4000000 in
theorem find_any (w : World) (M : Nat → Prop) (v : Value) (g : GrD) (h : IsGraph w M v g) {L R : Nat} (hg : GOk g L R) : Calls Try.prog 28 #[v] w (FindW w g L R) := by
  have CN := fun W (hb : Below w.heap.size w W) => Lib.hid (newMatch_any W M v g (h.below hb) hg)
  obtain ⟨v2, rfl, h2⟩ := h
  have HE := Lib.hid h2
  have HG := Lib.hid hg
  rw [hg.left] at CN ⊢
  have hL512 := hg.l512
  clear h2 hg
  go_enter Try.func28, Try.ntmps28
  go_wp2_with fail
  refine nameW fun W1 hW1 => ?_
  have hB1 : Below w.heap.size w W1 := by rw [hW1.out]; exact ((Below.refl _ _).alloc (Nat.le_refl _) _).alloc (by simp) _
  have hk1 : W1.heap[w.heap.size]? = some (.cells #[.int .i64 (L : Int), .int .i64 g.right, v2] 24 (0, 0)) := by rw [hW1.out, heap_alloc_if, if_neg (by simp), heap_alloc_if, if_pos rfl]
  have hk2 : W1.heap[w.heap.size + 1]? = some (.cells #[.slice none 0 0, .slice none 0 0] 54 (0, 0)) := by rw [hW1.out, heap_alloc_if, if_pos (by simp)]
  clear hW1
  refine (CN W1 hB1).out.mono ?_
  rintro e w2 ⟨bl, br, rfl, hbl, hbr, hm, hb2⟩
  have hj1 := (hb2.block _ (lt_heap hk1)).trans hk1
  have hj2 := (hb2.block _ (lt_heap hk2)).trans hk2
  have hs1 := lt_heap hk2
  have hbl' : w.heap.size + 1 < bl := by omega
  have hbr' : w.heap.size + 1 < br := by omega
  have HF2 : Hid (FL w w2 g v2 bl br L R 0) := Lib.hid ⟨hB1.trans (hb2.mono hB1.size), hj1, hj2, _, _, hm, FInv.start⟩
  have c0 : w2.cell? ⟨w.heap.size, 0, none⟩ = some (.int .i64 (L : Int)) := cell_of hj1 rfl
  have hbl2 := hm.2.1.lt
  have hbr2 := hm.2.2.lt
  have hs2 : w.heap.size + 1 < w2.heap.size := lt_heap hj2
  clear hb2 hm hj1 hj2 hk1 hk2 hB1 CN hbl hbr hs1
  unfold matV
  go_upto_region 2 with fail
  refine nameC fun W3 hW3 => ?_
  have hB3 : Below w2.heap.size w2 W3 := by rw [hW3.out]; exact (Below.refl _ _).alloc (Nat.le_refl _) _
  have HMB : Hid (W3.heap[w2.heap.size]? = some (.cells #[.slice (some ⟨bl, 0, none⟩) L L, .slice (some ⟨br, 0, none⟩) R R] 54 (0, 0))) := Lib.hid (by rw [hW3.out, heap_alloc_if, if_pos rfl])
  have HF3 := Lib.hid (HF2.out.below hB3)
  have hs3 : w2.heap.size < W3.heap.size := lt_heap HMB.out
  have c1 : W3.cell? ⟨w.heap.size, 0, none⟩ = some (.int .i64 (L : Int)) := (hB3.cell (lt_of_cell c0)).trans c0
  obtain ⟨bm, hbm⟩ : ∃ bm, bm = w2.heap.size := ⟨_, rfl⟩
  rw [← hbm] at HMB hs2 hs3 hbl2 hbr2 ⊢
  have hbm2 : w.heap.size + 1 < bm := hs2
  clear hW3 hB3 c0 hs2 HF2 hbm
  go_wp2_with fail
  go_loopw [11] (fun q11 wr => ∃ k : Nat, k ≤ L ∧ q11 = .int .i64 (k : Int) ∧ Hid (FL w wr g v2 bl br L R k) ∧ Hid (wr.heap[bm]? = some (.cells #[.slice (some ⟨bl, 0, none⟩) L L, .slice (some ⟨br, 0, none⟩) R R] 54 (0, 0)))) (fun q _ => L - (intOf q).toNat)
  case atStart => exact ⟨0, Nat.zero_le _, rfl, HF3, HMB⟩
  case round =>
    obtain ⟨k, hk, rfl, HFL, HMR⟩ := hrel
    by_cases hlt : k < L
    · have hlt2 : (k : Int) < (L : Int) := by omega
      have hk0 : (0 : Int) ≤ (k : Int) := by omega
      have hmm := @run_makeMap Try.prog
      go_upto_region 8 with fail
      clear hmm
      refine nameC fun W4 hW4 => ?_
      have hmr := lt_heap HMR.out
      obtain ⟨lf, rf, ⟨q1, q2, q3⟩, q4⟩ := HFL.out.st
      have hB4 : Below wr.heap.size wr W4 := by rw [hW4.out]; exact (((Below.refl _ _).alloc (Nat.le_refl _) _).alloc (by simp) _).alloc (by simp; omega) _
      have hS4 : SetB Try.prog 3 4 .i64 W4 wr.heap.size 0 (fun _ => false) := by rw [hW4.out]; exact ((SetB.made wr).alloc _).alloc _
      have hs4 : W4.heap[wr.heap.size + 1]? = some (.cells #[.map (some wr.heap.size)] 49 (0, 0)) := by rw [hW4.out, heap_alloc_if, if_neg (by simp), heap_alloc_if, if_pos (by simp)]
      have hf4 : W4.heap[wr.heap.size + 1 + 1]? = some (.cells #[.func (.func 35) #[] #[ptr w.heap.size, ptr (wr.heap.size + 1), ptr bm, ptr (wr.heap.size + 1 + 1)]] 62 (0, 0)) := by rw [hW4.out, heap_alloc_if, if_pos (by simp)]; rfl
      clear hW4
      have hFL4 := HFL.out.below hB4
      have hbw := HFL.out.bel.size
      have hge : IsEdges w (NB [wr.heap.size, bl, br]) v2 g.edges := IsSl.mono HE.out (fun b hb _ => by simp [NB]; omega) (by decide)
      have hFW : FW w.heap.size W4 g w.heap.size (wr.heap.size + 1) bm (wr.heap.size + 1 + 1) bl br wr.heap.size L R :=
        ⟨⟨v2, by rw [HG.out.left]; exact hFL4.gb, IsSl.below hge hFL4.bel⟩, hs4, (hB4.block _ hmr).trans HMR.out, hf4, by simp; omega, by simp; omega, by simp; omega, by simp; omega, ⟨by omega, by omega, q1⟩, ⟨by omega, by omega, by omega⟩⟩
      have hAP : AP w.heap.size W4 g w.heap.size (wr.heap.size + 1) bm (wr.heap.size + 1 + 1) bl br wr.heap.size L R 0 (fun _ => false) lf rf k :=
        ⟨hFW, ⟨hS4, q2.of_block (hB4.block _ q2.lt), q3.of_block (hB4.block _ q3.lt), by rw [Nat.zero_add]; exact unseen_none R⟩, q4.inv, hlt, fun h0 => absurd (q4.free k hlt (Nat.le_refl _)) (by omega)⟩
      have CA := Lib.hid (aug_any w.heap.size g _ _ _ _ _ _ _ L R HG.out R W4 0 _ lf rf k hAP (unseen_none R))
      have HFL4 := Lib.hid hFL4
      have HQ4 := Lib.hid q4
      have HQ1 := Lib.hid q1
      have hfc : W4.cell? ⟨wr.heap.size + 1 + 1, 0, none⟩ = some (.func (.func 35) #[] #[ptr w.heap.size, ptr (wr.heap.size + 1), ptr bm, ptr (wr.heap.size + 1 + 1)]) := cell_of hf4 rfl
      unfold ptr at hfc
      have HM4 := Lib.hid ((hB4.block _ hmr).trans HMR.out)
      clear hs4 hf4 hFW hAP hge hFL4 hS4 q1 q2 q3 q4 hB4
      go_wp2_with fail
      refine CA.out.mono ?_
      rintro e w5 ⟨ok, n5, S5, lf5, rf5, rfl, hk5, hd5, hr5⟩
      have hFLn : FL w w5 g v2 bl br L R (k + 1) := by
        have hnb : ∀ b, b < wr.heap.size → b ≠ bl → b ≠ br → b ∉ [wr.heap.size, bl, br] := fun b h1 h2 h3 => by simp; exact ⟨by omega, h2, h3⟩
        refine ⟨HFL4.out.bel.trans hk5.bel, (hk5.kp.block _ (lt_heap HFL4.out.gb) (hnb _ (by omega) (by omega) (by omega))).trans HFL4.out.gb, (hk5.kp.block _ (lt_heap HFL4.out.rb) (hnb _ (by omega) (by omega) (by omega))).trans HFL4.out.rb, lf5, rf5, ⟨HQ1.out, hd5.left, hd5.right⟩, ?_⟩
        rcases hr5 with ⟨-, hy⟩ | ⟨-, rfl, rfl, hn⟩
        · exact HQ4.out.yes hlt hy
        · exact HQ4.out.no hn
      have HFLn := Lib.hid hFLn
      have HMn := Lib.hid ((hk5.kp.block bm (lt_heap HM4.out) (by simp; omega)).trans HM4.out)
      clear hk5 hd5 hr5 hFLn hfc
      go_wp2_with fail
      go_roundw
      case rel => exact ⟨k + 1, by omega, by go_num, HFLn, HMn⟩
      case measure => simp [intOf]; omega
    · have hnl : ¬ (k : Int) < (L : Int) := by omega
      obtain rfl : L = k := by omega
      have m0 : wr.cell? ⟨bm, 0, none⟩ = some (.slice (some ⟨bl, 0, none⟩) L L) := cell_of HMR.out rfl
      have m1 : wr.cell? ⟨bm, 1, none⟩ = some (.slice (some ⟨br, 0, none⟩) R R) := cell_of HMR.out rfl
      have r0 : wr.cell? ⟨w.heap.size + 1, 0, none⟩ = some (.slice none 0 0) := cell_of HFL.out.rb rfl
      have r1 : wr.cell? ⟨w.heap.size + 1, 1, none⟩ = some (.slice none 0 0) := cell_of HFL.out.rb rfl
      have f0 : wr.frozen? ⟨w.heap.size + 1, 0, none⟩ = false := frz_at HFL.out.rb
      have f1 : wr.frozen? ⟨w.heap.size + 1, 1, none⟩ = false := frz_at HFL.out.rb
      go_wp2_with fail
      refine bodyPost_ret (v := matV bl br L R) (by simp [results, Try.results28, go_sem, matV, r0, r1]) rfl ?_
      obtain ⟨lf, rf, ⟨q1, q2, q3⟩, q4⟩ := HFL.out.st
      exact ⟨bl, br, lf, rf, rfl, by omega, by omega, ⟨q1, (q2.setOther (a := ⟨w.heap.size + 1, 0, none⟩) (by show bl ≠ w.heap.size + 1; omega) _).setOther (a := ⟨w.heap.size + 1, 1, none⟩) (by show bl ≠ w.heap.size + 1; omega) _, (q3.setOther (a := ⟨w.heap.size + 1, 0, none⟩) (by show br ≠ w.heap.size + 1; omega) _).setOther (a := ⟨w.heap.size + 1, 1, none⟩) (by show br ≠ w.heap.size + 1; omega) _⟩, q4, (HFL.out.bel.setCell (by show w.heap.size ≤ w.heap.size + 1; omega) _).setCell (by show w.heap.size ≤ w.heap.size + 1; omega) _⟩
end Go.Proofs.Ytolappaekjdcgaa
