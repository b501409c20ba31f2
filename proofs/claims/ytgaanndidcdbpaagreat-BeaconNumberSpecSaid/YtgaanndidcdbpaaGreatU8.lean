/- The reference's number: revealed, or joined out of opened shares. -/
import Derived.Test.YtgaanndidcdbpaaGreatU2
import Derived.Test.YtgaanndidcdbpaaGreatZE
import Derived.BigQuiet
namespace Go.Proofs.YtgaanndidcdbpaaGreat
open Go.RowKit Go.Shelf

theorem shT_yes {l : List OpnD} {c : Int} {k : Nat} (hk : k < l.length) (h : (opnN l k).club = c) : shL (l.take (k + 1)) c = shL (l.take k) c ++ [(opnN l k).sh] := by
  have e : opnN l k = l[k] := by unfold opnN; rw [List.getD_eq_getElem?_getD, List.getElem?_eq_getElem hk]; rfl
  rw [e] at h ⊢
  unfold shL
  rw [List.take_add_one, List.getElem?_eq_getElem hk, Option.toList_some, List.filter_append, List.map_append]
  congr 1
  rw [List.filter_cons, if_pos (by simpa using h)]; rfl
theorem shT_no {l : List OpnD} {c : Int} {k : Nat} (hk : k < l.length) (h : (opnN l k).club ≠ c) : shL (l.take (k + 1)) c = shL (l.take k) c := by
  have e : opnN l k = l[k] := by unfold opnN; rw [List.getD_eq_getElem?_getD, List.getElem?_eq_getElem hk]; rfl
  rw [e] at h
  unfold shL
  rw [List.take_add_one, List.getElem?_eq_getElem hk, Option.toList_some, List.filter_append, List.map_append, List.filter_cons, if_neg (by simpa using h)]
  simp
set_option maxRecDepth 100000 in
set_option maxHeartbeats 4000000 in
theorem rnumber_any (w : World) (M : Nat → Prop) (v : Value) (b : BeaD) (h : IsBea w M v b) (hs : SmallB b) (c : Int) : Calls Tryz.prog 47 #[v, .int .i64 c] w (NumB w (numberD b c)) := by
  obtain ⟨cA, cc, kA, kc, rA, rc, oA, oc, rfl, i1, i2, i3, i4⟩ := h.parts
  have HI1 := Lib.hid i1
  have HI2 := Lib.hid i2
  have HI3 := Lib.hid i3
  have HI4 := Lib.hid i4
  have HBE := Lib.hid h
  have HS := Lib.hid hs
  obtain ⟨X, hX⟩ : ∃ X, X = numberD b c := ⟨_, rfl⟩
  have HX := Lib.hid hX
  rw [← hX]
  clear h hs i1 i2 i3 i4 hX
  go_enter Tryz.func47, Tryz.ntmps47
  go_upto_region 1 with fail
  refine nameC fun W1 hW1 => ?_
  have hb1 : Below w.heap.size w W1 := by rw [hW1.out]; exact (Below.refl _ _).alloc (Nat.le_refl _) _
  have k0 : W1.heap[w.heap.size]? = some (.cells #[.slice cA b.clubs.length cc, .int .i64 b.thr, .int .u64 (b.rng : Int), .slice kA b.coms.length kc, .slice rA b.revs.length rc, .slice oA b.opns.length oc] 28 (0, 0)) := by rw [hW1.out]; exact heap_alloc_new _ _
  have HB1 := Lib.hid hb1
  have K0 := Lib.hid k0
  clear hW1 hb1 k0
  have c0 := cell_of (j := 0) K0.out rfl
  have c1 := cell_of (j := 1) K0.out rfl
  have c2 := cell_of (j := 2) K0.out rfl
  have c3 := cell_of (j := 3) K0.out rfl
  have c4 := cell_of (j := 4) K0.out rfl
  have c5 := cell_of (j := 5) K0.out rfl
  have hrl : b.revs.length ≤ 1000 := HS.out.re
  go_wp2_with fail
  go_loopw [6] (fun i wr => ∃ k : Nat, k ≤ b.revs.length ∧ i = .int .i64 (k : Int) ∧ Hid (noneTo (fun i => (revN b.revs i).club == c) k) ∧ wr = W1) (fun i _ => b.revs.length - (intOf i).toNat)
  case atStart => exact ⟨0, Nat.zero_le _, rfl, Lib.hid (fun j hj => absurd hj (by omega)), rfl⟩
  case round =>
    obtain ⟨k, hk, rfl, HNO, rfl⟩ := hrel
    by_cases hlt : k < b.revs.length
    · have hk1 : (k : Int) < (b.revs.length : Int) := by omega
      have hk0 : (0 : Int) ≤ (k : Int) := by omega
      obtain ⟨A9', c9', e9', -, -, hcells⟩ := HI3.out
      cases e9'
      obtain ⟨g9, o9, rfl, -, hgl, hc0, hc1⟩ := Cells.at2 hcells HB1.out hlt
      replace hc0 : wr.cell? ⟨g9, o9 + k * 2, none⟩ = some (.int .i64 (revN b.revs k).club) := hc0
      replace hc1 : wr.cell? ⟨g9, o9 + k * 2 + 1, none⟩ = some (.int .u64 ((revN b.revs k).num : Int)) := hc1
      obtain ⟨yc, hyc⟩ : ∃ q, q = (revN b.revs k).club := ⟨_, rfl⟩
      obtain ⟨yn, hyn⟩ : ∃ q, q = (revN b.revs k).num := ⟨_, rfl⟩
      have HYC := Lib.hid hyc
      have HYN := Lib.hid hyn
      rw [← hyc] at hc0
      rw [← hyn] at hc1
      clear hyc hyn hgl hcells
      by_cases he : yc = c
      · have d1 : (yc == c) = true := by simp [he]
        have HQ := Lib.hid (show X = (yn, true) by
          have e : revI b c = k := idxF_some hlt (by show ((revN b.revs k).club == c) = true; rw [← HYC.out]; exact d1) HNO.out
          rw [HX.out, HYN.out]; exact number_rev e.symm)
        clear he
        go_wp2_with fail
        go_ret2
        exact ⟨by rw [HQ.out]; rfl, HB1.out⟩
      · have d1 : (yc == c) = false := by simp [he]
        have HN2 := Lib.hid (noneTo_succ HNO.out (show ((revN b.revs k).club == c) = false by rw [← HYC.out]; exact d1))
        clear he
        go_wp2_with fail
        go_roundw
        case rel => exact ⟨k + 1, by omega, by go_num, HN2, by first | rfl | trivial⟩
        case measure => simp [intOf]; omega
    · have hk1 : ¬ (k : Int) < (b.revs.length : Int) := by omega
      obtain rfl : k = b.revs.length := by omega
      have HQ := Lib.hid (show revI b c = -1 from idxF_none HNO.out)
      clear hlt hk HNO
      obtain ⟨wo, hwo⟩ : ∃ wo, wo = wr := ⟨_, rfl⟩
      subst hwo
      go_upto_region 7 with fail
      refine nameC fun W2 hW2 => ?_
      have hb2 : Below wo.heap.size wo W2 := by rw [hW2.out]; exact (Below.refl _ _).alloc (Nat.le_refl _) _
      have hE : W2.heap[wo.heap.size]? = some (.cells #[] 35 (0, 0)) := by rw [hW2.out, heap_alloc_if, if_pos rfl]
      have HE : Hid (W2.ownsRow wo.heap.size 35 2 (.slice (some ⟨wo.heap.size, 0, none⟩) 0 0) 0 []) := own_empty hE (Nat.le_refl _)
      have HB2 := Lib.hid hb2
      clear hE hW2 hb2 c0 c1 c2 c3 c4 c5
      have hol : b.opns.length ≤ 1000 := HS.out.op
      go_wp2_with fail
      go_loopw [7, 8] (fun v i wr => ∃ k : Nat, k ≤ b.opns.length ∧ i = .int .i64 (k : Int) ∧ Hid (wr.ownsRow wo.heap.size 35 2 v (shL (b.opns.take k) c).length (rowS (shL (b.opns.take k) c))) ∧ Hid (Below wo.heap.size wo wr)) (fun _ i _ => b.opns.length - (intOf i).toNat)
      case atStart => exact ⟨0, Nat.zero_le _, rfl, HE, HB2⟩
      case round =>
        obtain ⟨k, hk, rfl, HO, HB⟩ := hrel
        clear HE HB2
        have HBw := Lib.hid (HB1.out.trans (HB.out.mono HB1.out.size))
        have HK := Lib.hid ((HB.out.block _ (lt_heap K0.out)).trans K0.out)
        have c0 := cell_of (j := 0) HK.out rfl
        have c1 := cell_of (j := 1) HK.out rfl
        have c2 := cell_of (j := 2) HK.out rfl
        have c3 := cell_of (j := 3) HK.out rfl
        have c4 := cell_of (j := 4) HK.out rfl
        have c5 := cell_of (j := 5) HK.out rfl
        by_cases hlt : k < b.opns.length
        · have hk1 : (k : Int) < (b.opns.length : Int) := by omega
          have hk0 : (0 : Int) ≤ (k : Int) := by omega
          obtain ⟨A9', c9', e9', -, -, hcells⟩ := HI4.out
          cases e9'
          obtain ⟨g9, o9, rfl, -, hgl, hc0, hc1, hc2, hc3⟩ := Cells.at4 hcells HBw.out hlt
          replace hc0 : wr.cell? ⟨g9, o9 + k * 4, none⟩ = some (.int .i64 (opnN b.opns k).club) := hc0
          replace hc2 : wr.cell? ⟨g9, o9 + k * 4 + 2, none⟩ = some (.int .u64 ((opnN b.opns k).sh.1 : Int)) := hc2
          replace hc3 : wr.cell? ⟨g9, o9 + k * 4 + 2 + 1, none⟩ = some (.int .u64 ((opnN b.opns k).sh.2 : Int)) := hc3
          obtain ⟨yc, hyc⟩ : ∃ q, q = (opnN b.opns k).club := ⟨_, rfl⟩
          have HYC := Lib.hid hyc
          rw [← hyc] at hc0
          have HYES := Lib.hid (fun e => shT_yes (l := b.opns) (c := c) (k := k) hlt e)
          have HNO := Lib.hid (fun e => shT_no (l := b.opns) (c := c) (k := k) hlt e)
          have hlen : (shL (b.opns.take k) c).length ≤ 1000 := Nat.le_trans (shL_len _ _) (by rw [List.length_take]; omega)
          obtain ⟨Y, hY⟩ : ∃ Y, Y = (opnN b.opns k).sh := ⟨_, rfl⟩
          rw [← hY] at hc2 hc3 HYES
          obtain ⟨y1, y2⟩ := Y
          dsimp only at hc2 hc3
          obtain ⟨L, hL⟩ : ∃ L, L = shL (b.opns.take k) c := ⟨_, rfl⟩
          rw [← hL] at HO hlen HYES HNO
          clear hyc hY hgl hcells hc1 hL
          obtain ⟨A1, c1', rfl⟩ := own_slice HO.out
          by_cases he : yc = c
          · have d1 : (yc == c) = true := by simp [he]
            have HA := Lib.hid (HYES.out (by rw [← HYC.out]; exact he))
            have MS := Lib.hid (rowS_snoc L (y1, y2))
            obtain ⟨iu, hiu, hz0, hz1, hz3⟩ := info_parts Tryz.info_sh
            have HIU := Lib.hid (And.intro hiu (And.intro hz0 (And.intro hz1 hz3)))
            have hsq := HB.out.size
            clear hiu hz0 hz1 hz3 he
            go_wp2_with (at_builtin; refine wpList_append_cells _ rfl _ _ 92 rfl wo.heap.size 35 iu (.agg #[.int .u64 0, .int .u64 0]) 2 16 Tryz.underlying92 HIU.out.1 HIU.out.2.1 HIU.out.2.2.1 HIU.out.2.2.2 rfl (by decide) _ L.length _ rfl (HO.out.alloc _) (some ⟨wr.heap.size, 0, none⟩) 1 1 [u64v y1, u64v y2] rfl rfl ?c1 ?c2 ?c3 ?c4 ?c5 ?_)
            case c1 => first | exact fun _ _ h => h | exact fun _ => ⟨_, rfl, cell_two_new _ _ _ _⟩
            case c2 => first | exact ⟨rfl, rfl⟩ | exact two_u64 _ _
            case c3 => unfold maxLen; omega
            case c4 => omega
            case c5 => first | omega | (simp; omega)
            intro v7 w7 hown7 hgrow7 _
            rw [MS.out] at hown7
            have HO7 := Lib.hid hown7
            have HB7 := Lib.hid ((HB.out.alloc hsq _).grown hgrow7 (by simp; omega) (own_base HO.out))
            clear hown7 hgrow7
            go_wp2_with fail
            go_roundw
            case rel => exact ⟨k + 1, by omega, by go_num, Lib.hid (by rw [HA.out, List.length_append]; exact HO7.out), HB7⟩
            case measure => simp [intOf]; omega
          · have d1 : (yc == c) = false := by simp [he]
            have HA := Lib.hid (HNO.out (by rw [← HYC.out]; exact he))
            clear he
            go_wp2_with fail
            go_roundw
            case rel => exact ⟨k + 1, by omega, by go_num, Lib.hid (by rw [HA.out]; exact HO.out), HB⟩
            case measure => simp [intOf]; omega
        · have hk1 : ¬ (k : Int) < (b.opns.length : Int) := by omega
          obtain rfl : k = b.opns.length := by omega
          rw [List.take_length] at HO
          obtain ⟨L, hL⟩ : ∃ L, L = shL b.opns c := ⟨_, rfl⟩
          rw [← hL] at HO
          obtain ⟨A1, c1', rfl⟩ := own_slice HO.out
          have HL := Lib.hid hL
          have HF := Lib.hid (IsShs.ofOwn HO.out)
          clear hL hlt hk
          by_cases hf : (L.length : Int) < b.thr
          · have b1 : decide ((L.length : Int) < b.thr) = true := by simpa using hf
            have HN := Lib.hid (show X = (0, false) by rw [HX.out]; exact number_few (by rw [HQ.out]; decide) (by rw [← HL.out]; exact hf))
            clear hf
            go_wp2_with fail
            go_ret2
            exact ⟨by rw [HN.out]; rfl, HBw.out⟩
          · have b1 : decide ((L.length : Int) < b.thr) = false := by simpa using hf
            have HN := Lib.hid (show X = ((joinD L b.thr).1, (joinD L b.thr).2 == 0) by rw [HX.out, HL.out]; exact number_join (by rw [HQ.out]; decide) (by rw [← HL.out]; exact hf))
            have HJ := Lib.hid (refJoin_any wr _ _ L HF.out b.thr)
            obtain ⟨jn, hjn⟩ : ∃ z, z = joinD L b.thr := ⟨_, rfl⟩
            rw [← hjn] at HN HJ
            clear hf hjn
            go_wp2_with fail
            refine HJ.out.mono ?_
            rintro e w7 ⟨rfl, hb7⟩
            have HW7 := Lib.hid (HBw.out.trans (hb7.mono HBw.out.size))
            clear hb7 c0 c1 c2 c3 c4 c5
            go_wp2_with fail
            go_ret2
            exact ⟨by rw [HN.out]; rfl, HW7.out⟩
end Go.Proofs.YtgaanndidcdbpaaGreat
