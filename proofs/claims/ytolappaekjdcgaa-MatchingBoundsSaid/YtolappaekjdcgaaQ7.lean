/- The law MatchingBounds. -/
import Derived.Test.YtolappaekjdcgaaF1
namespace Go.Proofs.Ytolappaekjdcgaa
open Go.RowKit Sm
set_option maxHeartbeats 4000000 in
set_option maxRecDepth 100000 in
theorem law7 (w : World) (M : Nat → Prop) (v : Value) (g : GrD) (h : IsGraph w M v g) (M' : Nat → Prop) (v' : Value) (m : List Int) (h' : IsInts w M' v' m) :
    Calls Try.prog 7 #[v, v'] w fun e w' => e = .returned (.bool true) ∧ Below w.heap.size w w' := by
  have HM := Lib.hid h'
  have HG := Lib.hid h
  obtain ⟨v2, rfl, -⟩ := h
  obtain ⟨Am, dm, rfl, -, hdm, -⟩ := h'
  obtain ⟨ii, hii, hz0, hz1, hz2⟩ := info_parts Try.infoI64
  have HIU := Lib.hid (And.intro hii (And.intro hz0 (And.intro hz1 hz2)))
  clear hii hz0 hz1 hz2
  go_enter Try.func7, Try.ntmps7
  go_wp2_with fail
  refine nameW fun W1 hW1 => ?_
  have hB1 : Below w.heap.size w W1 := by rw [hW1.out]; exact (Below.refl w.heap.size w).alloc (Nat.le_refl _) _
  have hb1 : W1.heap[w.heap.size]? = some (.cells #[.int .i64 g.left, .int .i64 g.right, v2] 24 (0, 0)) := by rw [hW1.out, heap_alloc_if, if_pos rfl]
  have HB1 := Lib.hid hB1
  have HX1 := Lib.hid hb1
  have HG1 := Lib.hid (HG.out.below hB1)
  obtain ⟨c0, c1, c2⟩ := graph_box hb1
  clear hW1 hB1 hb1
  refine (sane_any W1).mono ?_
  rintro e w2 ⟨rfl, hb⟩
  have HB2 := Lib.hid (HB1.out.trans (hb.mono HB1.out.size))
  have HG2 := Lib.hid (HG1.out.below hb)
  have HX2 := Lib.hid ((hb.block _ (lt_heap HX1.out)).trans HX1.out)
  clear hb c0 c1 c2 HB1 HG1 HX1
  obtain ⟨c0, c1, c2⟩ := graph_box HX2.out
  have CF := Lib.hid (few_any w2 M _ g HG2.out)
  cases hfew : fewB g
  · rw [hfew] at CF
    clear hfew
    go_wp2_with fail
    refine CF.out.mono ?_
    rintro e w3 ⟨rfl, hb⟩
    go_wp2_with fail
    go_ret
    exact ⟨rfl, HB2.out.trans (hb.mono HB2.out.size)⟩
  rw [hfew] at CF
  have HFEW := Lib.hid hfew
  clear hfew
  by_cases hm60 : 60 < m.length
  · have hm60i : (60 : Int) < (m.length : Int) := by omega
    go_wp2_with fail
    refine CF.out.mono ?_
    rintro e w3 ⟨rfl, hb⟩
    go_wp2_with fail
    go_ret
    exact ⟨rfl, HB2.out.trans (hb.mono HB2.out.size)⟩
  have hm60i : ¬ (60 : Int) < (m.length : Int) := by omega
  go_wp2_with fail
  refine CF.out.mono ?_
  rintro e w3 ⟨rfl, hb⟩
  replace HM := Lib.hid (IsSl.below HM.out (HB2.out.trans (hb.mono HB2.out.size) |>.mono (Nat.le_refl _)))
  have HB3 := Lib.hid (HB2.out.trans (hb.mono HB2.out.size))
  have HG3 := Lib.hid (HG2.out.below hb)
  have HX3 := Lib.hid ((hb.block _ (lt_heap HX2.out)).trans HX2.out)
  clear hb c0 c1 c2 HB2 HG2 HX2
  obtain ⟨c0, c1, c2⟩ := graph_box HX3.out
  clear CF
  have CV := Lib.hid (valid_any w3 M _ _ _ g m HG3.out HM.out (by omega))
  cases hv : validB g m
  · rw [validG_no hv] at CV
    clear hv
    go_wp2_with fail
    refine CV.out.mono ?_
    rintro e w4 ⟨rfl, hb⟩
    go_wp2_with fail
    go_ret
    exact ⟨rfl, HB3.out.trans (hb.mono HB3.out.size)⟩
  · rw [validG_yes hv] at CV
    have hc := (valid_parts hv).1
    obtain ⟨L, R, hg⟩ := gok_of hc
    have HGO := Lib.hid hg
    have HC := Lib.hid hc
    have HVM := Lib.hid (vmat_of hg hv)
    have hl512 := hg.l512
    have hr512 := hg.r512
    have hlen := hg.len
    have HMS := Lib.hid HVM.out.len
    clear hv hc hg
    go_wp2_with fail
    refine CV.out.mono ?_
    rintro e w4 ⟨rfl, hb⟩
    have HB4 := Lib.hid (HB3.out.trans (hb.mono HB3.out.size))
    have HG4 := Lib.hid (HG3.out.below hb)
    have HX4 := Lib.hid ((hb.block _ (lt_heap HX3.out)).trans HX3.out)
    replace HM := Lib.hid (IsSl.below HM.out hb)
    clear hb c0 c1 c2 HB3 HG3 HX3
    obtain ⟨c0, c1, c2⟩ := graph_box HX4.out
    clear CV
    have CC := Lib.hid (cover_yes w4 M _ g HG4.out HC.out HGO.out)
    go_wp2_with fail
    refine CC.out.mono ?_
    rintro e w5 ⟨v5, u5, lf5, rf5, Sl, Sr, rfl, hi, hj, hf, hd, hb⟩
    have hsz : szI m ≤ (natI (selN (fun v => !Sl v) L)).length + (natI (selN Sr R)).length := by
      rw [cover_len hf hd, HVM.out.size]
      exact finv_best hf HVM.out.mat
    have hla := selN_len (fun v => !Sl v) L
    have hlb := selN_len Sr R
    rw [← natI_len] at hla hlb
    obtain ⟨a, ha⟩ : ∃ a, a = natI (selN (fun v => !Sl v) L) := ⟨_, rfl⟩
    obtain ⟨b, hbb⟩ : ∃ b, b = natI (selN Sr R) := ⟨_, rfl⟩
    rw [← ha] at hi hla hsz
    rw [← hbb] at hj hlb hsz
    obtain ⟨A5, d5, rfl⟩ := ints_sl hi rfl
    obtain ⟨A6, d6, rfl⟩ := ints_sl hj rfl
    clear hi hj hf hd CC ha hbb
    have HB5 := Lib.hid (HB4.out.trans (hb.mono HB4.out.size))
    have HG5 := Lib.hid (HG4.out.below hb)
    have HX5 := Lib.hid ((hb.block _ (lt_heap HX4.out)).trans HX4.out)
    replace HM := Lib.hid (IsSl.below HM.out hb)
    clear hb c0 c1 c2 HB4 HG4 HX4
    obtain ⟨c0, c1, c2⟩ := graph_box HX5.out
    have CS := Lib.hid (size_any w5 _ _ _ HM.out)
    have HEN := Lib.hid (some_enough HGO.out HVM.out)
    obtain ⟨s, hs⟩ : ∃ s, s = szI m := ⟨_, rfl⟩
    rw [← hs] at CS hsz HEN
    have hs2 : ¬ ((a.length : Int) + (b.length : Int) < (s : Int)) := by omega
    have HSE := Lib.hid hs
    clear hs
    go_wp2_with fail
    refine CS.out.mono ?_
    rintro e w6 ⟨rfl, rfl⟩
    go_wp2_with fail
    go_loopw [8, 9] (fun q8 q9 wr => ∃ k : Nat, k ≤ m.length ∧ q9 = .int .i64 (k : Int) ∧ Hid (Row25 wr w5.heap.size q8 (selN (fun v => nthI m v != -1) k)) ∧ Hid (Below w5.heap.size w5 wr)) (fun _ q _ => m.length - (intOf q).toNat)
    case atStart =>
      refine ⟨0, Nat.zero_le _, rfl, Lib.hid (own_empty (by simp only [heap_alloc_if]; rw [if_pos trivial]) (Nat.le_refl _)), Lib.hid ((Below.refl _ _).alloc (Nat.le_refl _) _)⟩
    case round =>
      obtain ⟨k, hk, rfl, HO, HB⟩ := hrel
      by_cases hlt : k < m.length
      · have hlt2 : (k : Int) < (m.length : Int) := by omega
        have hk0 : (0 : Int) ≤ (k : Int) := by omega
        have hlenr := selN_len (fun v => nthI m v != -1) k
        obtain ⟨b', off, rfl, -, e0⟩ := IsInts.at_ HM.out HB.out hlt
        have HY := Lib.hid (fun h => selN_succ_yes (p := fun v => nthI m v != -1) (n := k) h)
        have HN := Lib.hid (fun h => selN_succ_no (p := fun v => nthI m v != -1) (n := k) h)
        obtain ⟨x, hx⟩ : ∃ x, x = nthI m k := ⟨_, rfl⟩
        rw [← hx] at e0 HY HN
        clear hx
        cases ht : (x != -1)
        · have HE := Lib.hid (HN.out ht)
          have HO7 : Hid (Row25 wr w5.heap.size u8 (selN (fun v => nthI m v != -1) (k + 1))) := Lib.hid (by rw [HE.out]; exact HO.out)
          go_wp2_with fail
          go_roundw
          case rel => exact ⟨k + 1, by omega, by go_num, HO7, HB⟩
          case measure => simp [intOf]; omega
        · have HE := Lib.hid (HY.out ht)
          go_wp2_with (at_builtin; refine wpList_append_cells _ rfl _ _ 25 rfl w5.heap.size 3 ii (.int .i64 0) 1 8 Try.underlying25 HIU.out.1 HIU.out.2.1 HIU.out.2.2.1 HIU.out.2.2.2 rfl (by decide) _ (selN (fun v => nthI m v != -1) k).length _ rfl (World.ownsRow.alloc HO.out _) (some ⟨wr.heap.size, 0, none⟩) 1 1 [i64v (k : Int)] rfl rfl (fun _ => ⟨_, rfl, cell_one_new _ _ _⟩) (one_i64 _) (by unfold maxLen; omega) (by omega) (by have := HB.out.size; simp; omega) ?_; intro v7 w7 ho7 hg7 _)
          have HO7 : Hid (Row25 w7 w5.heap.size v7 (selN (fun v => nthI m v != -1) (k + 1))) := Lib.hid (by rw [HE.out]; unfold Row25 natI; rw [List.length_append, List.map_append, List.map_append]; exact ho7)
          have HB7 : Hid (Below w5.heap.size w5 w7) := Lib.hid ((HB.out.alloc HB.out.size _).grown hg7 (by have := HB.out.size; simp; omega) (own_base HO.out))
          clear ho7 hg7
          (try simp only [Act.put])
          go_wp2_with fail
          exact ⟨⟨k + 1, by omega, by go_num, HO7, HB7⟩, by simp [intOf]; omega⟩
      · have hnl : ¬ (k : Int) < (m.length : Int) := by omega
        have hkm : k = L := by have := HMS.out; omega
        subst hkm
        have hb := HB.out
        have HI8 := Lib.hid HO.out.ints
        have HL8 := Lib.hid (show (natI (selN (fun v => nthI m v != -1) k)).length = s by rw [natI_len, HSE.out]; exact some_len HVM.out)
        obtain ⟨q, hq⟩ : ∃ q, q = natI (selN (fun v => nthI m v != -1) k) := ⟨_, rfl⟩
        rw [← hq] at HI8 HL8 HEN
        obtain ⟨A8, d8, rfl⟩ := ints_sl HI8.out HL8.out
        clear HO HB hq
        have HB8 := Lib.hid (HB5.out.trans (hb.mono HB5.out.size))
        have HG8 := Lib.hid (HG5.out.below hb)
        have HX8 := Lib.hid ((hb.block _ (lt_heap HX5.out)).trans HX5.out)
        clear c0 c1 c2 HB5 HG5 HX5
        obtain ⟨c0, c1, c2⟩ := graph_box HX8.out
        have CN := Lib.hid (neighbours_any wr M _ _ _ g q HG8.out HI8.out hlen)
        obtain ⟨nn, hnn⟩ : ∃ nn, nn = (nbrs g.edges q).length := ⟨_, rfl⟩
        rw [← hnn] at CN HEN
        have hen := HEN.out
        have hen2 : (s : Int) ≤ (nn : Int) := by omega
        clear hnn
        go_wp2_with fail
        refine CN.out.mono ?_
        rintro e w9 ⟨rfl, hb9⟩
        go_wp2_with fail
        go_ret
        exact ⟨rfl, HB8.out.trans (hb9.mono HB8.out.size)⟩
end Go.Proofs.Ytolappaekjdcgaa
