/- Paths of the reference, on what Paths answers: it says yes. -/
import Derived.Test.YtikddknhcfhnbaaG2
import Derived.Test.YtikddknhcfhnbaaV2
namespace Go.Proofs.Ytikddknhcfhnbaa
open Go.RowKit Go.Deep
/-- what is used of the arcs -/
def useF (f : List Int) (lf : Nat → Int) (j : Nat) : Int := nthI f j - lf j
theorem useF_zero {f : List Int} {lf : Nat → Int} (h : lf = nthI f) (j : Nat) : useF f lf j = 0 := by unfold useF; rw [h]; omega
theorem useF_next {f : List Int} {lf : Nat → Int} {p : List Int} {a : Int} {k i : Nat} (hk : k < p.length) (hi : nthI p k = (i : Int)) (j : Nat) :
    useF f (subL lf a (p.take (k + 1))) j = if j = i then useF f (subL lf a (p.take k)) i + a else useF f (subL lf a (p.take k)) j := by
  unfold useF
  rw [subL_next hk hi j]
  split
  · rename_i e; subst e; omega
  · rfl
theorem PathsP.v0 {n : NetD} {V : Nat} {f : List Int} {ps : List (List Int)} {am : List Int} {L : Nat → Nat → Int} {W : Nat → Int} (h : PathsP n V f ps am L W) : netF n f 0 n.arcs.length = W 0 := by
  have := (h.left 0 (Nat.zero_le _)).vEq
  rw [h.l0] at this
  rw [← this, ← netF_B]
set_option maxRecDepth 20000 in
set_option maxHeartbeats 4000000 in
theorem rpaths_any (w : World) (M1 M2 M4 : Nat → Prop) (base : Nat) (v1 v2 v3 v4 : Value) (n : NetD) (V : Nat) (f : List Int) (ps : List (List Int)) (am : List Int) (L : Nat → Nat → Int) (W : Nat → Int)
    (h1 : IsNet w M1 v1 n) (h2 : IsInts w M2 v2 f) (h3 : RowsW w (fun _ => True) base v3 ps) (h4 : IsInts w M4 v4 am) (hn : NOk n V) (hvb : valB n f = true) (hp : PathsP n V f ps am L W) (hz : W ps.length = 0) (hl : ps.length ≤ n.arcs.length) :
    Calls Try.prog 22 #[v1, v2, v3, v4] w (BoolW true w) := by
  have CV := fun X (hb : Below w.heap.size w X) => Lib.hid (rvalue_any X M1 M2 v1 v2 n f (h1.below hb) (h2.below hb))
  rw [valF_yes hvb, hp.v0] at CV
  have HS := Lib.hid h2
  have HR := Lib.hid h3
  have HM := Lib.hid h4
  have HP := Lib.hid hp
  have HZ := Lib.hid hz
  have HN := Lib.hid hn
  have HVB := Lib.hid hvb
  have hfl : f.length = n.arcs.length := (valB_parts hvb).2.1
  have hal := hp.len
  obtain ⟨va, rfl, hva⟩ := id h1
  have HA := Lib.hid hva
  obtain ⟨A, c, rfl, -⟩ := id hva
  obtain ⟨A2, c2, rfl, -⟩ := id h2
  obtain ⟨A3, c3, rfl⟩ := h3.sl
  obtain ⟨A4, c4, rfl, -⟩ := id h4
  have hVs := hn.vs
  have hV2 := hn.lo
  have hV5 := hn.hi
  have hlen := hn.len
  obtain ⟨v0, hv0⟩ : ∃ x, x = W 0 := ⟨_, rfl⟩
  rw [hVs, ← hv0] at CV
  rw [hVs]
  have HV0 := Lib.hid hv0
  rw [hal] at HM
  rw [hal]
  have HAL := Lib.hid hal
  have HFL := Lib.hid hfl
  have hlI : ¬ (n.arcs.length : Int) < (ps.length : Int) := by omega
  have hld : decide ((n.arcs.length : Int) < (ps.length : Int)) = false := decide_eq_false hlI
  have hlN : decide (n.arcs.length < ps.length) = false := decide_eq_false (by omega)
  clear h1 h2 h3 h4 hva hp hz hn hvb hv0 hal hfl
  go_enter Try.func22, Try.ntmps22
  go_wp2_with fail
  refine nameW fun W1 hW1 => ?_
  have hB1 : Below w.heap.size w W1 := by rw [hW1.out]; exact (Below.refl _ _).alloc (Nat.le_refl _) _
  have hk1 : W1.heap[w.heap.size]? = some (.cells #[.int .i64 (V : Int), .slice A n.arcs.length c] 24 (0, 0)) := by rw [hW1.out, heap_alloc_if, if_pos rfl]
  clear hW1
  refine (CV W1 hB1).out.mono ?_
  rintro e w2 ⟨rfl, hb2⟩
  have hk2 := (hb2.block _ (lt_heap hk1)).trans hk1
  have HB2 := Lib.hid (hB1.trans (hb2.mono hB1.size))
  have HK2 := Lib.hid hk2
  have c0 : w2.cell? ⟨w.heap.size, 0, none⟩ = some (.int .i64 (V : Int)) := cell_of hk2 rfl
  have c1 : w2.cell? ⟨w.heap.size, 1, none⟩ = some (.slice A n.arcs.length c) := cell_of hk2 rfl
  have hN2 := lt_heap hk2
  have hmk := fun X => makeNils n.arcs.length (by omega) X
  clear hb2 hk1 hk2 hB1 CV
  go_wp2_with fail
  clear hmk
  refine nameC fun W3 hW3 => ?_
  have hb3 : Below w2.heap.size w2 W3 := by rw [hW3.out]; exact (Below.refl _ _).alloc (Nat.le_refl _) _
  have HB3 := Lib.hid (HB2.out.trans (hb3.mono HB2.out.size))
  have HK3 := Lib.hid ((hb3.block _ (lt_heap HK2.out)).trans HK2.out)
  obtain ⟨bb, hbb⟩ : ∃ bb, bb = w2.heap.size := ⟨_, rfl⟩
  have HU3 : Hid (W3.rowIs bb 3 n.arcs.length (fun j => .int .i64 (useF f (L 0) j))) := Lib.hid ⟨(nils n.arcs.length).toArray, by rw [hW3.out, hbb, heap_alloc_if, if_pos rfl], by simp [nils], fun i hi => by have := useF_zero (f := f) HP.out.l0 i; simp [nils, hi, i64v, this]⟩
  rw [← hbb] at hN2 ⊢
  clear hW3 hb3 hbb HB2 HK2 c0 c1 hld hlI
  try rw [hlN]
  go_loopg [9, 12] ps.length (fun gk q9 q12 wr => ∃ i : Nat, i ≤ ps.length ∧ gk = ps.length - i ∧ q9 = .int .i64 (W i) ∧ q12 = .int .i64 (i : Int) ∧ Hid (Below w.heap.size w wr) ∧ Hid (wr.heap[w.heap.size]? = some (.cells #[.int .i64 (V : Int), .slice A n.arcs.length c] 24 (0, 0))) ∧ Hid (wr.rowIs bb 3 n.arcs.length (fun j => .int .i64 (useF f (L i) j))))
  case atStart => exact ⟨0, Nat.zero_le _, rfl, by rw [HV0.out], rfl, HB3, HK3, HU3⟩
  case round =>
    obtain ⟨i, hi, hgi, rfl, rfl, HB, HK, HU⟩ := hrel
    clear HB3 HK3 HU3
    by_cases hil : i < ps.length
    · have hiI : (i : Int) < (ps.length : Int) := by omega
      have hi0 : (0 : Int) ≤ (i : Int) := by omega
      have HST := Lib.hid (HP.out.step i hil)
      obtain ⟨p, hp⟩ : ∃ p, p = ps.getD i [] := ⟨_, rfl⟩
      obtain ⟨a, ha⟩ : ∃ a, a = nthI am i := ⟨_, rfl⟩
      obtain ⟨val, hval⟩ : ∃ a, a = W i := ⟨_, rfl⟩
      rw [← hp, ← ha, ← hval] at HST
      obtain ⟨b3, A5, c5, rfl, hr3, hti⟩ := HR.out.at_ HB.out hil
      obtain ⟨b4, o4, rfl, hb4, hm4⟩ := HM.out.at_ HB.out (show i < am.length by rw [HAL.out]; exact hil)
      rw [← ha] at hm4
      rw [← hp] at hr3 hti
      have HTI := Lib.hid hti
      have HLS : Hid (L (i + 1) = subL (L i) a p) := Lib.hid (by rw [ha, hp]; exact HP.out.lS i hil)
      have HWS : Hid (W (i + 1) = val - a) := Lib.hid (by rw [ha, hval]; exact HP.out.wS i hil)
      have hsp := HST.out.sp
      have h0V : (0 : Nat) ≠ V - 1 := by omega
      have hpl1 : 1 ≤ p.length := by have := hsp.ne h0V; rcases p with - | ⟨x, l⟩; · exact absurd rfl this
                                     · simp
      have hplV : p.length ≤ V := by have h1 := hsp.len HN.out rfl; have h2 := cntF_le (fun _ => false) V; omega
      have hlo := HST.out.lo
      have hhi := HST.out.hi
      have d1 : decide (a < 1) = false := decide_eq_false (by omega)
      have d2 : decide (val < a) = false := decide_eq_false (by omega)
      have d3 : ((p.length : Int) == 0) = false := by simpa using (show ¬ (p.length : Int) = 0 by omega)
      have d4 : decide ((V : Int) < (p.length : Int)) = false := decide_eq_false (by omega)
      have d5 : decide (V < p.length) = false := decide_eq_false (by omega)
      have k0 : wr.cell? ⟨w.heap.size, 0, none⟩ = some (.int .i64 (V : Int)) := cell_of HK.out rfl
      have hkw := lt_heap HK.out
      have HVAL := Lib.hid hval
      rw [← hval]
      have HPG := Lib.hid hp
      have HAG := Lib.hid ha
      clear hp ha hti hsp hval
      go_upto_region 8 with fail
      go_quiet (fail)
      go_upto_region 12 with fail
      refine nameC fun W5 hW5 => ?_
      obtain ⟨bv, hbv⟩ : ∃ b, b = wr.heap.size := ⟨_, rfl⟩
      have hB5 : Below wr.heap.size wr W5 := by rw [hW5.out]; exact (below_drewN (Below.refl _ _) _).alloc (by simp) _
      have HB5 := Lib.hid (HB.out.trans (hB5.mono HB.out.size))
      have HK5 := Lib.hid ((hB5.block _ hkw).trans HK.out)
      have hbbv : bb < bv := by rw [hbv]; exact HU.out.lt
      have HU5 : Hid (W5.rowIs bb 3 n.arcs.length (fun j => .int .i64 (useF f (subL (L i) a (p.take 0)) j))) := Lib.hid (HU.out.of_block (hB5.block _ HU.out.lt))
      have HV5 : Hid (W5.ownsRow bv 3 1 (.slice (some ⟨bv, 0, none⟩) 1 1) ([0] : List Int).length (([0] : List Int).map i64v)) := Lib.hid ⟨rfl, .inr ⟨bv, 1, #[.int .i64 0], rfl, Nat.le_refl _, by rw [hW5.out, hbv, heap_alloc_if]; simp, Nat.le_refl _, by unfold maxLen; omega, rfl, rfl⟩⟩
      have HWS0 := Lib.hid (WalkS.start HST.out.sp)
      rw [← hbv]
      try rw [d5]
      clear d5 hW5 hB5 hbv d1 d2 d3 d4 k0 hr3 hm4 hkw HTI HU HK HB hb4
      go_wp2_with fail
      go_loopg [13, 14, 15] p.length (fun gj q13 q14 q15 wx => ∃ (k v : Nat) (B : Nat → Bool) (vis : List Int), k ≤ p.length ∧ gj = p.length - k ∧ q13 = .int .i64 (v : Int) ∧ q15 = .int .i64 (k : Int) ∧ Hid (WalkS n V (L i) p k v B vis) ∧ Hid (wx.ownsRow bv 3 1 q14 vis.length (vis.map i64v)) ∧ Hid (Below w.heap.size w wx) ∧ Hid (wx.heap[w.heap.size]? = some (.cells #[.int .i64 (V : Int), .slice A n.arcs.length c] 24 (0, 0))) ∧ Hid (wx.rowIs bb 3 n.arcs.length (fun j => .int .i64 (useF f (subL (L i) a (p.take k)) j))) ∧ bv < wx.heap.size)
      case atStart => exact ⟨0, 0, _, [0], Nat.zero_le _, rfl, rfl, rfl, HWS0, HV5, HB5, HK5, HU5, by have := (own_lt HV5.out bv rfl).2; exact this⟩
      case round =>
        obtain ⟨k, v, B, vis, hk, hgj, rfl, rfl, HW, HO, HB, HK, HU, hbz⟩ := hrel
        clear HWS0 HV5 HB5 HK5 HU5
        obtain ⟨b3', A5', c5', e3, hr3, hti⟩ := HR.out.at_ HB.out hil
        cases e3
        rw [← HPG.out] at hr3 hti
        have k0 : wr.cell? ⟨w.heap.size, 0, none⟩ = some (.int .i64 (V : Int)) := cell_of HK.out rfl
        have hkw := lt_heap HK.out
        by_cases hkl : k < p.length
        · have hkI : (k : Int) < (p.length : Int) := by omega
          have hk0 : (0 : Int) ≤ (k : Int) := by omega
          obtain ⟨bq, oq, rfl, hbq, hcq⟩ := IsInts.at_ hti (Below.refl _ _) hkl
          obtain ⟨j, x, hj, hjm, hsrc, hdst, hvis, h0, hnext⟩ := HW.out.next hkl
          obtain ⟨ba, off, rfl, hba, e0, e1, -⟩ := HA.out.at_ HB.out hjm
          rw [hsrc] at e0
          rw [hdst] at e1
          rw [hj] at hcq
          have HN2 := Lib.hid hnext
          have HJ := Lib.hid hj
          have HXD := Lib.hid hdst
          have k1 : wr.cell? ⟨w.heap.size, 1, none⟩ = some (.slice (some ⟨ba, off, none⟩) n.arcs.length c) := cell_of HK.out rfl
          have hjI : (j : Int) < (n.arcs.length : Int) := by omega
          have hj0 : (0 : Int) ≤ (j : Int) := by omega
          have hjn : ¬ (n.arcs.length : Int) ≤ (j : Int) := by omega
          have dj1 : decide ((j : Int) < 0) = false := decide_eq_false (by omega)
          have dj2 : decide ((n.arcs.length : Int) ≤ (j : Int)) = false := decide_eq_false (by omega)
          have hbaw : ba < wr.heap.size := Nat.lt_of_lt_of_le hba HB.out.size
          have hown := HO.out
          obtain ⟨Av, cv, rfl⟩ := own_sl hown
          have CH := Lib.hid (has_any wr _ _ vis (IsInts.ofOwn hown) (x : Int))
          rw [hvis] at CH
          have hvl : vis.length < 100000 := by have := HW.out.len; omega
          clear hown hvis hj hnext hsrc hdst hti
          go_wp2_with fail
          refine CH.out.mono ?_
          rintro e w6 ⟨rfl, hD⟩
          have hB6 := hD.below
          have HB6 := Lib.hid (HB.out.trans (hB6.mono HB.out.size))
          have HK6 := Lib.hid ((hB6.block _ hkw).trans HK.out)
          have HU6 := Lib.hid (HU.out.of_block (hB6.block _ HU.out.lt))
          have HO6 := Lib.hid (own_below HO.out hB6)
          replace e1 := (hB6.cell (p := ⟨ba, _, none⟩) hbaw).trans e1
          replace k1 := (hB6.cell (p := ⟨w.heap.size, 1, none⟩) hkw).trans k1
          have hbz6 : bv < w6.heap.size := Nat.lt_of_lt_of_le hbz hB6.size
          have hbz6' : bv ≤ w6.heap.size := Nat.le_of_lt hbz6
          clear hD hB6 CH e0 hcq hr3 k0 HU HK HB HO dj1 dj2
          go_upto_region 20 with (refine wpList_int2 rfl (.tmp 133) (.tmp 135) rfl bv vis (x : Int) rfl (own_below HO6.out ((Below.refl _ _).alloc (Nat.le_refl _) _)) rfl (cell_new1 _ _ _) hvl (Nat.le_trans hbz6' (by simp)) ?_; intro A7 d7 w7 H7)
          try simp only [Act.put]
          have hwN : w.heap.size < bv := by omega
          have hb67 : Below bv w6 w7 := ((Below.refl _ _).alloc hbz6' (.cells #[.int .i64 (x : Int)] 3)).trans H7.out.2.1
          have HB7 := Lib.hid (HB6.out.trans (hb67.mono (Nat.le_of_lt hwN)))
          have HK7 := Lib.hid ((hb67.block _ hwN).trans HK6.out)
          have HU7 := Lib.hid (HU6.out.of_block (hb67.block _ hbbv))
          have HO7 := Lib.hid H7.out.1
          have hbz7 : bv < w7.heap.size := Nat.lt_of_lt_of_le hbz6 hb67.size
          obtain ⟨b4', o4', e4, hb4, hm4⟩ := HM.out.at_ HB7.out (show i < am.length by rw [HAL.out]; exact hil)
          cases e4
          rw [← HAG.out] at hm4
          have hu := HU7.out.cell (i := j) hjm
          have hfu := HU7.out.frozen j
          have hbzu := HU7.out.lt
          obtain ⟨u, hue⟩ : ∃ u, u = useF f (subL (L i) a (p.take k)) j := ⟨_, rfl⟩
          rw [← hue] at hu
          have HUE := Lib.hid hue
          obtain ⟨y, hy⟩ : ∃ y, y = nthI f j := ⟨_, rfl⟩
          have HYF := Lib.hid hy
          have hlf := (HP.out.left i (by omega)).rng j hjm
          have hea := HST.out.each (nthI p k) (by rw [nthI_get hkl]; exact List.getElem_mem hkl)
          have hsub := subL_take HST.out.sp a hkl HJ.out
          rw [HJ.out, Int.toNat_natCast] at hea
          have huy : u = y - L i j := by rw [hue, hy]; unfold useF; rw [hsub]
          rw [← hy] at hlf
          have hy9 : y ≤ 1073741824 := by
            have h2 := ((valB_parts HVB.out).2.2.1 j hjm).2
            obtain ⟨a1, b1, c1, e1, h3⟩ := HN.out.arc j hjm
            rw [e1, ← hy] at h2
            have : (c1 : Int) ≤ 1073741824 := by omega
            exact Int.le_trans h2 this
          have hwa : IntKind.i64.wrap (u + a) = u + a := IntWalk.i64_in _ (by omega)
          have dya : decide (y < u + a) = false := decide_eq_false (by omega)
          clear hsub hue hy hlf hea huy hy9 hb67 H7 HB6 HK6 HU6 HO6 k1 e1 h0
          go_still_tail 12, (by kernel_rfl)
          change wpList _ _ _ _ _ w7.drew
          go_upto_region 21 with fail
          refine nameC fun W9 hW9 => ?_
          have HU9 : Hid (W9.rowIs bb 3 n.arcs.length (fun j => .int .i64 (useF f (subL (L i) a (p.take (k + 1))) j))) := Lib.hid (by
            rw [hW9.out]
            refine ((HU7.out.set j (.int .i64 (u + a))).drew).congr fun q _ => ?_
            rw [useF_next hkl HJ.out q]
            by_cases q1 : q = j
            · rw [if_pos q1, if_pos q1, HUE.out]
            · rw [if_neg q1, if_neg q1])
          have HB9 : Hid (Below w.heap.size w W9) := Lib.hid (by rw [hW9.out]; exact (HB7.out.setCell (by show w.heap.size ≤ bb; omega) _).drew)
          have HK9 : Hid (W9.heap[w.heap.size]? = some (.cells #[.int .i64 (V : Int), .slice (some ⟨ba, off, none⟩) n.arcs.length c] 24 (0, 0))) := Lib.hid (by
            rw [hW9.out]
            show (w7.setCell ⟨bb, j, none⟩ (.int .i64 (u + a))).heap[w.heap.size]? = _
            rw [heap_set_if, if_neg (by omega)]; exact HK7.out)
          have HO9 : Hid (W9.ownsRow bv 3 1 (.slice A7 (vis ++ [(x : Int)]).length d7) (vis ++ [(x : Int)]).length ((vis ++ [(x : Int)]).map i64v)) := Lib.hid (own_kept HO7.out fun b hb _ => by
            have := (own_lt HO7.out b hb).1
            rw [hW9.out]
            show (w7.setCell ⟨bb, j, none⟩ (.int .i64 (u + a))).heap[b]? = _
            rw [heap_set_if, if_neg (by omega)])
          have hbz9 : bv < W9.heap.size := by rw [hW9.out]; show bv < (w7.setCell ⟨bb, j, none⟩ (.int .i64 (u + a))).heap.size; simpa [World.setCell] using hbz7
          have hcu : W9.cell? ⟨bb, j, none⟩ = some (.int .i64 (u + a)) := by
            have h := HU9.out.cell (i := j) hjm
            rw [useF_next hkl HJ.out j, if_pos rfl, ← HUE.out] at h
            exact h
          obtain ⟨bf, of, rfl, hbf, ef⟩ := HS.out.at_ HB9.out (show j < f.length by rw [HFL.out]; exact hjm)
          rw [← HYF.out] at ef
          have hjf : (j : Int) < (f.length : Int) := by rw [HFL.out]; exact hjI
          have hbu9 := HU9.out.lt
          clear hW9 hu hfu hbzu hm4 hb4 HB7 HK7 HU7 HO7 hbz7 hwa
          go_quiet (fail)
          go_wp2_with fail
          go_roundg (p.length - (k + 1))
          case measure => omega
          case rel =>
            refine ⟨k + 1, x, _, vis ++ [(x : Int)], by omega, rfl, rfl, by go_num, HN2, Lib.hid ?_, Lib.hid (below_drewN HB9.out _), Lib.hid HK9.out, Lib.hid HU9.out, hbz9⟩
            have e5 : (vis ++ [(x : Int)]).length = vis.length + 1 := by simp
            rw [← e5]
            exact own_below HO9.out (below_drewN (Below.refl _ _) _)
        · have hnl : ¬ (k : Int) < (p.length : Int) := by omega
          obtain rfl : k = p.length := by omega
          have hvI : (v : Int) = (V : Int) - 1 := by have := HW.out.fin rfl; omega
          have hve : ((v : Int) != (V : Int) - 1) = false := by rw [hvI]; simp
          have hwV : IntKind.i64.wrap ((V : Int) - 1) = (V : Int) - 1 := IntWalk.i64_in _ (by omega)
          obtain ⟨b4', o4', e4, hb4, hm4⟩ := HM.out.at_ HB.out (show i < am.length by rw [HAL.out]; exact hil)
          cases e4
          rw [← HAG.out] at hm4
          have hv42 : val ≤ 4398046511104 := by
            rw [HVAL.out, ← (HP.out.left i (by omega)).vEq]
            have h1 := (netB_le (n := n) (g := L i) (v := 0) (k := n.arcs.length) fun j hj => ⟨((HP.out.left i (by omega)).rng j hj).1, Int.le_trans ((HP.out.left i (by omega)).rng j hj).2 (by
              have h2 := ((valB_parts HVB.out).2.2.1 j hj).2
              obtain ⟨a1, b1, c1, e1, h3⟩ := HN.out.arc j hj
              rw [e1] at h2
              have : (c1 : Int) ≤ 1073741824 := by omega
              exact Int.le_trans h2 this)⟩).2
            omega
          have hwv : IntKind.i64.wrap (val - a) = val - a := IntWalk.i64_in _ (by omega)
          have HU9 : Hid (wr.rowIs bb 3 n.arcs.length (fun j => .int .i64 (useF f (L (i + 1)) j))) := Lib.hid (by rw [HLS.out]; have := HU.out; rwa [List.take_length] at this)
          clear hvI hti HU HO
          go_wp2_with fail
          go_roundg (ps.length - (i + 1))
          case measure => omega
          case rel => exact ⟨i + 1, by omega, rfl, by rw [HWS.out], by go_num, HB, HK, HU9⟩
    · have hnl : ¬ (i : Int) < (ps.length : Int) := by omega
      obtain rfl : i = ps.length := by omega
      rw [HZ.out]
      go_wp2_with fail
      go_ret
      exact ⟨rfl, HB.out⟩
end Go.Proofs.Ytikddknhcfhnbaa
