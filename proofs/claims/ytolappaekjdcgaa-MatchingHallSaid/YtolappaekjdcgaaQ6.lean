/- The law MatchingHall. -/
import Derived.Test.YtolappaekjdcgaaF1
namespace Go.Proofs.Ytolappaekjdcgaa
open Go.RowKit Sm
set_option maxHeartbeats 4000000 in
set_option maxRecDepth 100000 in
theorem law6 (w : World) (M : Nat → Prop) (v : Value) (g : GrD) (h : IsGraph w M v g) :
    Calls Try.prog 6 #[v] w fun e w' => e = .returned (.bool true) ∧ Below w.heap.size w w' := by
  have HG := Lib.hid h
  obtain ⟨v2, rfl, -⟩ := h
  go_enter Try.func6, Try.ntmps6
  go_wp2_with fail
  refine nameW fun W1 hW1 => ?_
  have hB1 : Below w.heap.size w W1 := by rw [hW1.out]; exact (Below.refl w.heap.size w).alloc (Nat.le_refl _) _
  have hb1 : W1.heap[w.heap.size]? = some (.cells #[.int .i64 g.left, .int .i64 g.right, v2] 24 (0, 0)) := by rw [hW1.out, heap_alloc_if, if_pos rfl]
  have HB1 := Lib.hid hB1
  have HX1 := Lib.hid hb1
  have HG1 := Lib.hid (HG.out.below hB1)
  obtain ⟨c0, c1, c2⟩ := graph_box hb1
  clear hW1 hB1 hb1
  refine (sane_any W1).mono ?_
  rintro e w2 ⟨rfl, hb⟩
  have HB2 := Lib.hid (HB1.out.trans (hb.mono HB1.out.size))
  have HG2 := Lib.hid (HG1.out.below hb)
  have HX2 := Lib.hid ((hb.block _ (lt_heap HX1.out)).trans HX1.out)
  clear hb c0 c1 c2 HB1 HG1 HX1
  obtain ⟨c0, c1, c2⟩ := graph_box HX2.out
  have CF := Lib.hid (few_any w2 M _ g HG2.out)
  cases hfew : fewB g
  · rw [hfew] at CF
    clear hfew
    go_wp2_with fail
    refine CF.out.mono ?_
    rintro e w3 ⟨rfl, hb⟩
    go_wp2_with fail
    go_ret
    exact ⟨rfl, HB2.out.trans (hb.mono HB2.out.size)⟩
  rw [hfew] at CF
  have HFEW := Lib.hid hfew
  clear hfew
  go_wp2_with fail
  refine CF.out.mono ?_
  rintro e w3 ⟨rfl, hb⟩
  have HB3 := Lib.hid (HB2.out.trans (hb.mono HB2.out.size))
  have HG3 := Lib.hid (HG2.out.below hb)
  have HX3 := Lib.hid ((hb.block _ (lt_heap HX2.out)).trans HX2.out)
  clear hb c0 c1 c2 HB2 HG2 HX2
  obtain ⟨c0, c1, c2⟩ := graph_box HX3.out
  clear CF
  cases hc : chkB g
  · have CM := Lib.hid (max_no w3 M _ g HG3.out hc)
    unfold ErrW at CM
    have CC := fun W hb => Lib.hid (hall_no W M _ g (HG3.out.below hb) hc)
    unfold ErrW at CC
    clear hc
    go_wp2_with fail
    refine CM.out.mono ?_
    rintro e w4 ⟨rfl, hb⟩
    have CC4 := CC w4 hb
    have HB4 := Lib.hid (HB3.out.trans (hb.mono HB3.out.size))
    have HG4 := Lib.hid (HG3.out.below hb)
    have HX4 := Lib.hid ((hb.block _ (lt_heap HX3.out)).trans HX3.out)
    clear hb c0 c1 c2 HB3 HG3 HX3
    obtain ⟨c0, c1, c2⟩ := graph_box HX4.out
    go_wp2_with fail
    refine CC4.out.mono ?_
    rintro e w5 ⟨rfl, hb⟩
    go_wp2_with fail
    go_ret
    exact ⟨rfl, HB4.out.trans (hb.mono HB4.out.size)⟩
  · obtain ⟨L, R, hg⟩ := gok_of hc
    have HGO := Lib.hid hg
    have HC := Lib.hid hc
    have hl512 := hg.l512
    have hr512 := hg.r512
    have hlen := hg.len
    have CM := Lib.hid (max_yes w3 M _ g HG3.out hc hg)
    have HLE := Lib.hid hg.left
    clear hc hg
    go_wp2_with fail
    refine CM.out.mono ?_
    rintro e w4 ⟨v4, lf, rf, rfl, hi, hf, hb⟩
    obtain ⟨A4, d4, rfl⟩ := ints_sl hi (n := L) (by simp)
    have HI := Lib.hid hi
    have HF := Lib.hid hf
    clear hi hf CM
    have HB4 := Lib.hid (HB3.out.trans (hb.mono HB3.out.size))
    have HG4 := Lib.hid (HG3.out.below hb)
    have HX4 := Lib.hid ((hb.block _ (lt_heap HX3.out)).trans HX3.out)
    clear hb c0 c1 c2 HB3 HG3 HX3
    obtain ⟨c0, c1, c2⟩ := graph_box HX4.out
    have CC := Lib.hid (hall_yes w4 M _ g HG4.out HC.out HGO.out)
    go_wp2_with fail
    refine CC.out.mono ?_
    rintro e w5 ⟨v5, lf5, rf5, Sl, Sr, he, hi, hf, hd, hb⟩
    replace HI := Lib.hid (IsSl.below HI.out hb)
    have HSS := Lib.hid (same_size hf HF.out)
    have HAM := Lib.hid (all_matched hd)
    have HLS := Lib.hid (hall_less HGO.out hf hd)
    have HST := Lib.hid (setB_sel Sl L)
    have hla := selN_len Sl L
    have CSZ : ∀ W, IsInts W (fun b => w3.heap.size ≤ b) (.slice A4 L d4) ((List.range L).map lf) → Hid (Calls Try.prog 17 #[.slice A4 L d4] W fun e w' => e = .returned (.int .i64 (sizeM (opt lf5) L : Int)) ∧ W = w') := fun W hW => Lib.hid (by
      have := size_any W _ _ _ hW
      rw [szI_map _ HF.out.inv.ll, ← HSS.out] at this
      exact this)
    obtain ⟨z, hz⟩ : ∃ z, z = sizeM (opt lf5) L := ⟨_, rfl⟩
    have hzl : z ≤ L := by rw [hz]; exact sizeM_le _ _
    rw [← hz] at HAM HLS CSZ
    rw [← natI_len] at hla HAM he
    obtain ⟨a, ha⟩ : ∃ a, a = natI (selN Sl L) := ⟨_, rfl⟩
    rw [← ha] at hi HAM HLS HST hla he
    obtain ⟨A5, d5, rfl⟩ := ints_sl hi rfl
    have HI5 := Lib.hid hi
    have HHE := Lib.hid he
    clear hi hf hd CC ha hz he
    have HB5 := Lib.hid (HB4.out.trans (hb.mono HB4.out.size))
    have HG5 := Lib.hid (HG4.out.below hb)
    have HX5 := Lib.hid ((hb.block _ (lt_heap HX4.out)).trans HX4.out)
    clear hb c0 c1 c2 HB4 HG4 HX4
    obtain ⟨c0, c1, c2⟩ := graph_box HX5.out
    have CS5 := fun n => Lib.hid ((CSZ (w5.drewN n) HI.out).out)
    rw [HLE.out] at c0
    by_cases hz0 : z = L
    · have ha0 : a.length = 0 := HAM.out.2 hz0
      have he := HHE.out
      rw [ha0] at he
      obtain rfl : e = .returned (.tuple #[.slice A5 0 d5, .bool true, .int .i64 0]) := he
      have hzz : ((z : Int) == (L : Int)) = true := by simp [hz0]
      clear HAM HLS HST HI5 HHE CSZ ha0 hz0
      go_wp2_with fail
      go_quiet ((go_at_call 17; exact Calls.quiet_of ((CS5 _).out.mono fun e w' ⟨h1, h2⟩ => ⟨h1, 0, h2.symm⟩)))
      go_wp2_with fail
      go_ret
      exact ⟨rfl, below_drewN HB5.out _⟩
    · have ha0 : a.length ≠ 0 := fun e => hz0 (HAM.out.1 e)
      have he := HHE.out
      rw [decide_eq_false ha0] at he
      subst he
      have hlt := HLS.out hz0
      have hzz : ((z : Int) == (L : Int)) = false := by rw [beq_eq_false_iff_ne]; omega
      clear HAM HLS HHE CSZ ha0 hz0
      go_wp2_with fail
      go_quiet ((go_at_call 17; exact Calls.quiet_of ((CS5 _).out.mono fun e w' ⟨h1, h2⟩ => ⟨h1, 0, h2.symm⟩)))
      have hb := below_drewN (Below.refl w5.heap.size w5) nq
      generalize w5.drewN nq = w6 at hb ⊢
      have HB6 := Lib.hid (HB5.out.trans (hb.mono HB5.out.size))
      have HG6 := Lib.hid (HG5.out.below hb)
      have HX6 := Lib.hid ((hb.block _ (lt_heap HX5.out)).trans HX5.out)
      replace HI5 := Lib.hid (IsSl.below HI5.out hb)
      clear hb c0 c1 c2 HB5 HG5 HX5
      obtain ⟨c0, c1, c2⟩ := graph_box HX6.out
      rw [HLE.out] at c0
      have CT := Lib.hid (set_any w6 _ _ a HI5.out (L : Int))
      rw [HST.out] at CT
      go_wp2_with fail
      refine CT.out.mono ?_
      rintro e w7 ⟨rfl, q7, hw7⟩
      have hb : Below w6.heap.size w6 w7 := by rw [hw7]; exact below_drewN (Below.refl _ _) _
      clear hw7 CT
      have HB7 := Lib.hid (HB6.out.trans (hb.mono HB6.out.size))
      have HG7 := Lib.hid (HG6.out.below hb)
      have HX7 := Lib.hid ((hb.block _ (lt_heap HX6.out)).trans HX6.out)
      replace HI5 := Lib.hid (IsSl.below HI5.out hb)
      clear hb c0 c1 c2 HB6 HG6 HX6
      obtain ⟨c0, c1, c2⟩ := graph_box HX7.out
      have CNB := Lib.hid (neighbours_any w7 M _ _ _ g a HG7.out HI5.out hlen)
      obtain ⟨nn, hnn⟩ : ∃ nn, nn = (nbrs g.edges a).length := ⟨_, rfl⟩
      rw [← hnn] at CNB hlt
      clear hnn
      go_wp2_with fail
      refine CNB.out.mono ?_
      rintro e w8 ⟨rfl, hb⟩
      have hlt2 : (nn : Int) < (a.length : Int) := by omega
      go_wp2_with fail
      go_ret
      exact ⟨rfl, HB7.out.trans (hb.mono HB7.out.size)⟩
end Go.Proofs.Ytolappaekjdcgaa
