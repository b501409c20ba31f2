/- The law BeaconRefuses. -/
import Derived.Test.YtgaanndidcdbpaaZM
import Derived.Test.YtgaanndidcdbpaaZI
import Derived.BigQuiet
namespace Go.Proofs.Ytgaanndidcdbpaa
open Go.RowKit Go.Shelf

set_option maxRecDepth 100000 in
set_option maxHeartbeats 8000000 in
theorem law6 (w : World) (M M' : Nat → Prop) (v u : Value) (cl : List Int) (t : Int) (of : Nat) (ps : List (List Nat)) (sc sf num : Nat) (ha : IsInts w M v cl) (hp : IsPol w M' u ps) (hw : ∀ i, i < cl.length → W64 (nthI cl i)) (hu : ∀ i, i < ps.length → U64s (polN ps i)) (hsc : sc < 256) (hsf : sf < 256) (hnum : num < 18446744073709551616) :
    Calls Try.prog 6 #[v, .int .i64 t, .int .u64 (of : Int), u, .agg #[.int .u8 (sc : Int), .int .u8 (sf : Int)], .int .u64 (num : Int)] w (RetT true w) := by
  have HA := Lib.hid ha
  have HP := Lib.hid hp
  have HU := Lib.hid hu
  have HWW := Lib.hid hw
  obtain ⟨aA, ac, rfl, -⟩ := ha
  obtain ⟨bA, bc, rfl, -, hbc⟩ := hp.len
  obtain ⟨n, hn⟩ : ∃ n, n = cl.length := ⟨_, rfl⟩
  have HN := Lib.hid hn
  obtain ⟨m, hm⟩ : ∃ m, m = ps.length := ⟨_, rfl⟩
  have HM := Lib.hid hm
  rw [← hn] at HA ⊢
  rw [← hm] at HP ⊢
  clear hp hw hu hbc hn hm
  have HNUM := Lib.hid hnum
  clear hnum
  go_enter Try.func6, Try.ntmps6
  go_wp2_with fail
  refine nameW fun W1 hW1 => ?_
  have hb1 : Below w.heap.size w W1 := by rw [hW1.out]; exact (Below.refl _ _).alloc (Nat.le_refl _) _
  have k0 : W1.heap[w.heap.size]? = some (.cells #[.int .u8 (sc : Int), .int .u8 (sf : Int)] 37 (0, 0)) := by rw [hW1.out]; exact heap_alloc_new _ _
  have HB1 := Lib.hid hb1
  have K1 := Lib.hid k0
  clear hW1 hb1 k0
  refine (sane_any W1).mono ?_
  rintro e W2 ⟨rfl, hb⟩
  have HB := Lib.hid (HB1.out.trans (hb.mono HB1.out.size))
  have K2 := Lib.hid ((hb.block _ (lt_heap K1.out)).trans K1.out)
  clear hb HB1 K1
  go_wp2_with fail
  refine (few_any _ _ _ _ _ cl ps (IsSl.below HA.out HB.out) (HP.out.below HB.out) none 0 0).mono ?_
  rintro e W3 ⟨rfl, hb⟩
  have HBn := Lib.hid (HB.out.trans (hb.mono HB.out.size))
  have K3 := Lib.hid ((hb.block _ (lt_heap K2.out)).trans K2.out)
  have HB3 := HBn
  clear hb HB HBn K2
  obtain ⟨zf, hzf⟩ : ∃ z, z = fewD cl ps 0 := ⟨_, rfl⟩
  have HZF := Lib.hid hzf
  rw [← hzf]
  clear hzf
  by_cases hf : zf = true
  case neg =>
    rw [show zf = false by simpa using hf]
    clear hf
    go_wp2_with fail
    go_ret
    exact ⟨rfl, HB3.out⟩
  rw [hf]
  clear hf
  by_cases hn0 : n = 0
  case pos =>
    have e0 : ((n : Int) == 0) = true := by simp [hn0]
    clear hn0
    go_wp2_with fail
    go_ret
    exact ⟨rfl, HB3.out⟩
  have e0 : ((n : Int) == 0) = false := by simp [hn0]
  have hnz : (n : Int) ≠ 0 := by omega
  go_wp2_with fail
  refine (start_any _ _ _ _ _ cl t of ps (IsSl.below HA.out HB3.out) (HP.out.below HB3.out) HWW.out HU.out).mono ?_
  rintro e W4 ⟨bv, rfl, ⟨y0, y1, y2, y3, y4, y5, y6, y7, y8, y9, y10, y11, y12, y13, rfl⟩, hbv, hb⟩
  obtain ⟨ok, hok⟩ : ∃ z, z = startB cl t of ps := ⟨_, rfl⟩
  have HOK := Lib.hid hok
  have HBV := Lib.hid hbv
  rw [← hok] at HBV ⊢
  rw [← HN.out] at HBV
  have HB4 := Lib.hid (HB3.out.trans (hb.mono HB3.out.size))
  have K4 := Lib.hid ((hb.block _ (lt_heap K3.out)).trans K3.out)
  have HS4 := Lib.hid hb.size
  clear hb hbv hok K3 e0
  go_upto_region 6 with fail
  refine nameC fun W5 hW5 => ?_
  have hb5 : Below W4.heap.size W4 W5 := by rw [hW5.out]; exact (Below.refl _ _).alloc (Nat.le_refl _) _
  obtain ⟨g, hg⟩ : ∃ g, g = W4.heap.size := ⟨_, rfl⟩
  have k5 : W5.heap[g]? = some (.cells #[.slice y0 y1 y2, .int .i64 y3, .int .u64 y4, .slice y5 y6 y7, .slice y8 y9 y10, .slice y11 y12 y13] 32 (0, 0)) := by rw [hW5.out, hg]; exact heap_alloc_new _ _
  have HB5 := Lib.hid (HB4.out.trans (hb5.mono HB4.out.size))
  have K5 := Lib.hid ((hb5.block _ (lt_heap K4.out)).trans K4.out)
  have G5 := Lib.hid k5
  have HBV5 := Lib.hid (show ok = true → IsBea W5 TT (.agg #[.slice y0 y1 y2, .int .i64 y3, .int .u64 y4, .slice y5 y6 y7, .slice y8 y9 y10, .slice y11 y12 y13]) (stB cl t of ps n) from fun h => IsBea.mono ((HBV.out h).below hb5) (fun _ _ _ => trivial))
  rw [← hg]
  clear hW5 hb5 k5 hg K4 HBV HB4 HS4
  by_cases hok : ok = true
  case neg =>
    rw [show ok = false by simpa using hok]
    clear hok
    go_wp2_with fail
    go_ret
    exact ⟨rfl, HB5.out⟩
  have HST := Lib.hid (St.of (HOK.out.symm.trans hok))
  have HOV := Lib.hid (Ov.start HST.out)
  rw [← HN.out] at HOV
  have HBE := Lib.hid (HBV5.out hok)
  have HSM := Lib.hid (stB_small (k := n) (ps := ps) HST.out.new HWW.out (Nat.le_of_eq HN.out))
  have HML : Hid (m = n) := Lib.hid (by rw [HM.out, HN.out]; exact HST.out.len)
  rw [hok]
  clear hok HBV5 HB3
  obtain ⟨c, hc⟩ : ∃ c, c = sc % n := ⟨_, rfl⟩
  obtain ⟨f, hf⟩ : ∃ f, f = sf % n := ⟨_, rfl⟩
  have hcn : c < n := by rw [hc]; exact Nat.mod_lt _ (by omega)
  have hfn : f < n := by rw [hf]; exact Nat.mod_lt _ (by omega)
  have HCF := Lib.hid (And.intro hc hf)
  have HCN := Lib.hid (And.intro hcn hfn)
  clear hc hf
  have d0 := cell_of (j := 0) K5.out rfl
  have d1 := cell_of (j := 1) K5.out rfl
  go_upto_region 8 with fail
  go_quiet (fail)
  have ec : (sc : Int) % (n : Int) = (c : Int) := by rw [HCF.out.1]; rfl
  have ef : (sf : Int) % (n : Int) = (f : Int) := by rw [HCF.out.2]; rfl
  rw [ec, ef]
  clear d0 d1 ec ef
  go_upto_region 9 with fail
  refine nameC fun W2 hW2 => ?_
  have hb2 : Below w.heap.size w W2 := by rw [hW2.out]; exact (below_drewN HB5.out _)
  have hk2 : W2.heap[g]? = W5.heap[g]? := by rw [hW2.out]; rfl
  have G2 := Lib.hid (hk2.trans G5.out)
  have HBE2 : Hid (IsBea W2 TT (.agg #[.slice y0 y1 y2, .int .i64 y3, .int .u64 y4, .slice y5 y6 y7, .slice y8 y9 y10, .slice y11 y12 y13]) (stB cl t of ps n)) := Lib.hid (HBE.out.below (by rw [hW2.out]; exact below_drewN (Below.refl _ _) _))
  have HB2 := Lib.hid hb2
  clear hW2 hk2 HBE HB5 G5 K5
  obtain ⟨b1, o1, vA, vc, rfl, hb1, hc1, hkv⟩ := HP.out.at_ hb2 (show c < ps.length by rw [← HM.out, HML.out]; exact hcn)
  have hp1 : 0 < (polN ps c).length := pol_ne HST.out (by rw [← HN.out]; exact hcn)
  have HKV := Lib.hid hkv
  obtain ⟨b3, o3, rfl, hb3, hc3⟩ := IsU64.at_ hkv (Below.refl _ _) hp1
  rw [show (polN ps c)[0] = p0 ps c by unfold p0; rw [List.getD_eq_getElem?_getD, List.getElem?_eq_getElem hp1]; rfl] at hc3
  obtain ⟨b2, o2, rfl, hb2', hcl2⟩ := HA.out.at_ hb2 (show c < cl.length by rw [← HN.out]; exact hcn)
  obtain ⟨b2x, o2x, ex, -, hcl3⟩ := HA.out.at_ hb2 (show f < cl.length by rw [← HN.out]; exact hfn)
  cases ex
  have hw64 : W64 (nthI cl c) := HWW.out c (by rw [← HN.out]; exact hcn)
  have hw64f : W64 (nthI cl f) := HWW.out f (by rw [← HN.out]; exact hfn)
  have D1 := Lib.hid (fun (W : World) (hW : Below W2.heap.size W2 W) => Lib.hid (reveal_any W _ _ (stB cl t of ps n) ⟨nthI cl c, num⟩ (HBE2.out.below hW) HSM.out hw64 HNUM.out))
  obtain ⟨rz, hrz⟩ : ∃ z, z = revealD (stB cl t of ps n) ⟨nthI cl c, num⟩ := ⟨_, rfl⟩
  rw [← hrz] at D1
  dsimp only at D1
  have HRZ : Hid (rz.2 = if num = p0 ps c then 0 else 241) := Lib.hid (by
    rw [hrz]; unfold revealD
    rw [if_pos HOV.out.chk, HOV.out.done, HOV.out.revB_eq HST.out (by rw [← HN.out]; exact hcn)]
    by_cases e : num = p0 ps c
    · rw [if_pos e, decide_eq_true e]; rfl
    · rw [if_neg e, decide_eq_false e]; rfl)
  obtain ⟨re, hre⟩ : ∃ z, z = rz.2 := ⟨_, rfl⟩
  rw [← hre] at HRZ
  obtain ⟨xk, hxk⟩ : ∃ z, z = nthI cl c := ⟨_, rfl⟩
  obtain ⟨xf, hxf⟩ : ∃ z, z = nthI cl f := ⟨_, rfl⟩
  obtain ⟨pn, hpn⟩ : ∃ z, z = p0 ps c := ⟨_, rfl⟩
  obtain ⟨ln, hln⟩ : ∃ z, z = (polN ps c).length := ⟨_, rfl⟩
  rw [← hxk] at hcl2 D1
  rw [← hxf] at hcl3
  rw [← hpn] at hc3 HRZ
  rw [← hln] at hc1 hp1 HKV
  have HXN := Lib.hid (And.intro hxk (And.intro hxf (And.intro hpn hln)))
  have HC := Lib.hid (show ∀ W', Below W2.heap.size W2 W' → (W'.cell? ⟨g, 0, none⟩ = some (.slice y0 y1 y2) ∧ W'.cell? ⟨g, 1, none⟩ = some (.int .i64 y3) ∧ W'.cell? ⟨g, 2, none⟩ = some (.int .u64 y4) ∧ W'.cell? ⟨g, 3, none⟩ = some (.slice y5 y6 y7) ∧ W'.cell? ⟨g, 4, none⟩ = some (.slice y8 y9 y10) ∧ W'.cell? ⟨g, 5, none⟩ = some (.slice y11 y12 y13) ∧ W'.cell? ⟨b2, o2 + c, none⟩ = some (.int .i64 xk) ∧ W'.cell? ⟨b2, o2 + f, none⟩ = some (.int .i64 xf) ∧ W'.cell? ⟨b1, o1 + c, none⟩ = some (.slice (some ⟨b3, o3, none⟩) ln vc) ∧ W'.cell? ⟨b3, o3, none⟩ = some (.int .u64 (pn : Int))) from fun W' h => by
    have e0 := (h.block _ (lt_heap G2.out)).trans G2.out
    exact ⟨cell_of e0 rfl, cell_of e0 rfl, cell_of e0 rfl, cell_of e0 rfl, cell_of e0 rfl, cell_of e0 rfl, (h.cell (p := ⟨b2, o2 + c, none⟩) (lt_of_cell hcl2)).trans hcl2, (h.cell (p := ⟨b2, o2 + f, none⟩) (lt_of_cell hcl3)).trans hcl3, (h.cell (p := ⟨b1, o1 + c, none⟩) (lt_of_cell hc1)).trans hc1, (h.cell (p := ⟨b3, o3 + 0, none⟩) (lt_of_cell hc3)).trans hc3⟩)
  have hcz : (0 : Int) ≤ (c : Int) := by omega
  have hcz1 : (c : Int) < (n : Int) := by omega
  have hfz : (0 : Int) ≤ (f : Int) := by omega
  have hfz1 : (f : Int) < (n : Int) := by omega
  have hl0 : (0 : Int) < (ln : Int) := by omega
  have hcm : (c : Int) < (m : Int) := by rw [HML.out]; omega
  have HW64 := Lib.hid (And.intro hw64 hw64f)
  clear hb2 hb1 hc1 hkv hb3 hc3 hb2' hcl2 hcl3 hw64 hw64f hrz hxk hxf hpn hln hcn hfn
  go_cut [18] (fun s18 W => s18 = .int .i64 rz.2 ∧ Hid (Below W2.heap.size W2 W))
  case first =>
    refine anyL_begin (z := 12) (S := fun W9 => Below W2.heap.size W2 W9) (by kernel_rfl) (Below.drew (Below.refl _ _)) (fun hHeld => ?_)
    refine AnyL.takeD (i := 0) (d := some 57) (v := ?_) rfl rfl (by kernel_rfl) (by kernel_rfl) (fun _ _ _ h => h) (by kernel_rfl) (by kernel_rfl) (by kernel_rfl) (Or.inl ⟨by rfl, ?_⟩) hHeld ?_
    rotate_left 1
    focus (intro w hSw; (try dsimp only at hSw); obtain ⟨c0, c1, c2, c3, c4, c5, ck, cf, cv, cn⟩ := HC.out w hSw; go_simp; (try with_reducible rfl))
    (repeat (first | simp only [Act.put] | simp only [List.setIfInBounds_toArray] | simp only [List.set_cons_zero] | simp only [List.set_cons_succ]))
    refine AnyL.takeD (i := 1) (d := some 58) (v := ?_) rfl rfl (by kernel_rfl) (by kernel_rfl) (fun _ _ _ h => h) (by kernel_rfl) (by kernel_rfl) (by kernel_rfl) (Or.inl ⟨by rfl, ?_⟩) hHeld ?_
    rotate_left 1
    focus (intro w hSw; (try dsimp only at hSw); go_simp; (try with_reducible rfl))
    (repeat (first | simp only [Act.put] | simp only [List.setIfInBounds_toArray] | simp only [List.set_cons_zero] | simp only [List.set_cons_succ]))
    refine AnyL.takeD (i := 2) (d := some 59) (v := ?_) rfl rfl (by kernel_rfl) (by kernel_rfl) (fun _ _ _ h => h) (by kernel_rfl) (by kernel_rfl) (by kernel_rfl) (Or.inl ⟨by rfl, ?_⟩) hHeld ?_
    rotate_left 1
    focus (intro w hSw; (try dsimp only at hSw); go_simp; (try with_reducible rfl))
    (repeat (first | simp only [Act.put] | simp only [List.setIfInBounds_toArray] | simp only [List.set_cons_zero] | simp only [List.set_cons_succ]))
    refine AnyL.takeD (i := 3) (d := some 60) (v := ?_) rfl rfl (by kernel_rfl) (by kernel_rfl) (fun _ _ _ h => h) (by kernel_rfl) (by kernel_rfl) (by kernel_rfl) (Or.inl ⟨by rfl, ?_⟩) hHeld ?_
    rotate_left 1
    focus (intro w hSw; (try dsimp only at hSw); go_simp; (try with_reducible rfl))
    (repeat (first | simp only [Act.put] | simp only [List.setIfInBounds_toArray] | simp only [List.set_cons_zero] | simp only [List.set_cons_succ]))
    refine AnyL.takeD (i := 4) (d := some 61) (v := ?_) rfl rfl (by kernel_rfl) (by kernel_rfl) (fun _ _ _ h => h) (by kernel_rfl) (by kernel_rfl) (by kernel_rfl) (Or.inl ⟨by rfl, ?_⟩) hHeld ?_
    rotate_left 1
    focus (intro w hSw; (try dsimp only at hSw); obtain ⟨c0, c1, c2, c3, c4, c5, ck, cf, cv, cn⟩ := HC.out w hSw; go_simp; (try with_reducible rfl))
    (repeat (first | simp only [Act.put] | simp only [List.setIfInBounds_toArray] | simp only [List.set_cons_zero] | simp only [List.set_cons_succ]))
    refine AnyL.takeD (i := 5) (d := some 62) (v := ?_) rfl rfl (by kernel_rfl) (by kernel_rfl) (fun _ _ _ h => h) (by kernel_rfl) (by kernel_rfl) (by kernel_rfl) (Or.inl ⟨by rfl, ?_⟩) hHeld ?_
    rotate_left 1
    focus (intro w hSw; (try dsimp only at hSw); go_simp; (try with_reducible rfl))
    (repeat (first | simp only [Act.put] | simp only [List.setIfInBounds_toArray] | simp only [List.set_cons_zero] | simp only [List.set_cons_succ]))
    refine AnyL.takeD (i := 6) (d := some 63) (v := ?_) rfl rfl (by kernel_rfl) (by kernel_rfl) (fun _ _ _ h => h) (by kernel_rfl) (by kernel_rfl) (by kernel_rfl) (Or.inl ⟨by rfl, ?_⟩) hHeld ?_
    rotate_left 1
    focus (intro w hSw; (try dsimp only at hSw); go_simp; (try with_reducible rfl))
    (repeat (first | simp only [Act.put] | simp only [List.setIfInBounds_toArray] | simp only [List.set_cons_zero] | simp only [List.set_cons_succ]))
    have HBa : Hid (Below W2.heap.size W2 W2.drew) := Lib.hid (Below.drew (Below.refl _ _))
    refine AnyL.two (i := 7) (j := 11) (by kernel_rfl) rfl rfl (fun K hK => ?_) (fun K hK => ?_)
    · skip
      go_simp
      go_at_call 15
      refine ((D1.out _ HBa.out).out).mono ?_
      rintro e w7 ⟨bv, rfl, hbv, hb7⟩
      have HB7 := Lib.hid (HBa.out.trans (hb7.mono HBa.out.size))
      obtain ⟨gn, hgn⟩ : ∃ g, g = w7.heap.size := ⟨_, rfl⟩
      have HGN : Hid (W2.heap.size ≤ gn) := Lib.hid (by rw [hgn]; exact HB7.out.size)
      obtain ⟨z0, z1, z2, z3, z4, z5, z6, z7, z8, z9, z10, z11, z12, z13, rfl⟩ := hbv.shape
      have HGE := Lib.hid hgn
      clear hbv hb7 hgn
      refine hK.out _ _ (fun _ => HB7.out) (fun hHeld => ?_)
      replace hHeld := hHeld (by kernel_rfl)
      clear hK K
      (repeat (first | simp only [Act.put] | simp only [List.setIfInBounds_toArray] | simp only [List.set_cons_zero] | simp only [List.set_cons_succ]))
      refine AnyL.takeD (i := 8) (d := some 56) (v := ?_) rfl rfl (by kernel_rfl) (by kernel_rfl) (fun _ _ _ h => h) (by kernel_rfl) (by kernel_rfl) (by kernel_rfl) (Or.inl ⟨by rfl, ?_⟩) hHeld ?_
      rotate_left 1
      focus (intro w hSw; (try dsimp only at hSw); go_simp; (try with_reducible rfl))
      (repeat (first | simp only [Act.put] | simp only [List.setIfInBounds_toArray] | simp only [List.set_cons_zero] | simp only [List.set_cons_succ]))
      refine AnyL.takeD (i := 9) (d := some 65) (v := ?_) rfl rfl (by kernel_rfl) (by kernel_rfl) (fun _ _ _ h => h) (by kernel_rfl) (by kernel_rfl) (by kernel_rfl) (Or.inl ⟨by rfl, ?_⟩) hHeld ?_
      rotate_left 1
      focus (intro w hSw; (try dsimp only at hSw); go_simp; (try with_reducible rfl))
      (repeat (first | simp only [Act.put] | simp only [List.setIfInBounds_toArray] | simp only [List.set_cons_zero] | simp only [List.set_cons_succ]))
      refine AnyL.lateD (i := 10) (d := some 66) (v := ?_) rfl rfl (by kernel_rfl) (by kernel_rfl) (fun _ _ _ h => h) (by kernel_rfl) (by kernel_rfl) (Or.inl ⟨by rfl, ?_⟩) (fun _ => hHeld) ?_
      rotate_left 1
      focus (intro w hSw; (try dsimp only at hSw); go_simp; (try with_reducible rfl))
      (repeat (first | simp only [Act.put] | simp only [List.setIfInBounds_toArray] | simp only [List.set_cons_zero] | simp only [List.set_cons_succ]))
      refine AnyL.one (i := 11) (by kernel_rfl) rfl (fun K hK => ?_)
      go_simp
      refine nameG (w := w7.alloc (.cells #[.slice none 0 0, .int .i64 0, .int .u64 0, .slice none 0 0, .slice none 0 0, .slice none 0 0] 32)) (p := fun W => K _ W) fun w8 hw8 => ?_
      have hb8w : Below w7.heap.size w7 w8 := by rw [hw8.out]; exact (Below.refl _ _).alloc (Nat.le_refl _) _
      have g8 : w8.heap[gn]? = some (.cells #[.slice none 0 0, .int .i64 0, .int .u64 0, .slice none 0 0, .slice none 0 0, .slice none 0 0] 32 (0, 0)) := by rw [hw8.out, HGE.out]; exact heap_alloc_new _ _
      rw [← HGE.out]
      have HB8 := Lib.hid (HB7.out.trans (hb8w.mono HB7.out.size))
      obtain ⟨⟨c0, c1, c2, c3, c4, c5⟩, ⟨f0, f1, f2, f3, f4, f5⟩⟩ := blk6 g8
      clear hb8w g8 hw8 HB7
      refine hK.out _ _ (fun _ => HB8.out) (fun hHeld => ?_)
      replace hHeld := hHeld (by kernel_rfl)
      clear hK K
      (repeat (first | simp only [Act.put] | simp only [List.setIfInBounds_toArray] | simp only [List.set_cons_zero] | simp only [List.set_cons_succ]))
      refine AnyL.one (i := 12) (by kernel_rfl) rfl (fun K hK => ?_)
      go_simp
      refine hK.out _ _ (fun h => nomatch (show true = false from h)) (fun _ => ?_)
      clear hK K
      (try dsimp only)
      refine AnyL.one (i := 13) (by kernel_rfl) rfl (fun K hK => ?_)
      go_simp
      refine hK.out _ _ (fun h => nomatch (show true = false from h)) (fun _ => ?_)
      clear hK K
      (try dsimp only)
      refine AnyL.done (by kernel_rfl) ?_
      clear c0 c1 c2 c3 c4 c5 f0 f1 f2 f3 f4 f5
      go_wp2_with fail
      go_meet
      case rel => exact ⟨rfl, Lib.hid (w6_below HB8.out HGN.out _ _ _ _ _ _)⟩
    · skip
      go_simp
      refine nameG (w := W2.drew.alloc (.cells #[.slice none 0 0, .int .i64 0, .int .u64 0, .slice none 0 0, .slice none 0 0, .slice none 0 0] 32)) (p := fun W => K _ W) fun w7 hw7 => ?_
      obtain ⟨gn, hgn⟩ : ∃ g, g = W2.heap.size := ⟨_, rfl⟩
      have HGN : Hid (W2.heap.size ≤ gn) := Lib.hid (by rw [hgn]; exact Nat.le_refl _)
      have g7 : w7.heap[gn]? = some (.cells #[.slice none 0 0, .int .i64 0, .int .u64 0, .slice none 0 0, .slice none 0 0, .slice none 0 0] 32 (0, 0)) := by rw [hw7.out, hgn]; exact heap_alloc_new _ _
      have HB7 : Hid (Below W2.heap.size W2 w7) := Lib.hid (by rw [hw7.out]; exact HBa.out.alloc HBa.out.size _)
      rw [← hgn]
      have G7 := Lib.hid g7
      clear hgn g7 hw7
      refine hK.out _ _ (fun _ => HB7.out) (fun hHeld => ?_)
      replace hHeld := hHeld (by kernel_rfl)
      clear hK K
      (repeat (first | simp only [Act.put] | simp only [List.setIfInBounds_toArray] | simp only [List.set_cons_zero] | simp only [List.set_cons_succ]))
      refine AnyL.one (i := 7) (by kernel_rfl) rfl (fun K hK => ?_)
      go_simp
      go_at_call 15
      refine ((D1.out _ HB7.out).out).mono ?_
      rintro e w8 ⟨bv, rfl, hbv, hb8⟩
      have HB8 := Lib.hid (HB7.out.trans (hb8.mono HB7.out.size))
      have g8 := (hb8.block _ (lt_heap G7.out)).trans G7.out
      obtain ⟨z0, z1, z2, z3, z4, z5, z6, z7, z8, z9, z10, z11, z12, z13, rfl⟩ := hbv.shape
      obtain ⟨⟨c0, c1, c2, c3, c4, c5⟩, ⟨f0, f1, f2, f3, f4, f5⟩⟩ := blk6 g8
      clear hbv hb8 g8 HB7 G7
      refine hK.out _ _ (fun _ => HB8.out) (fun hHeld => ?_)
      replace hHeld := hHeld (by kernel_rfl)
      clear hK K
      (repeat (first | simp only [Act.put] | simp only [List.setIfInBounds_toArray] | simp only [List.set_cons_zero] | simp only [List.set_cons_succ]))
      refine AnyL.takeD (i := 8) (d := some 56) (v := ?_) rfl rfl (by kernel_rfl) (by kernel_rfl) (fun _ _ _ h => h) (by kernel_rfl) (by kernel_rfl) (by kernel_rfl) (Or.inl ⟨by rfl, ?_⟩) hHeld ?_
      rotate_left 1
      focus (intro w hSw; (try dsimp only at hSw); go_simp; (try with_reducible rfl))
      (repeat (first | simp only [Act.put] | simp only [List.setIfInBounds_toArray] | simp only [List.set_cons_zero] | simp only [List.set_cons_succ]))
      refine AnyL.takeD (i := 9) (d := some 65) (v := ?_) rfl rfl (by kernel_rfl) (by kernel_rfl) (fun _ _ _ h => h) (by kernel_rfl) (by kernel_rfl) (by kernel_rfl) (Or.inl ⟨by rfl, ?_⟩) hHeld ?_
      rotate_left 1
      focus (intro w hSw; (try dsimp only at hSw); go_simp; (try with_reducible rfl))
      (repeat (first | simp only [Act.put] | simp only [List.setIfInBounds_toArray] | simp only [List.set_cons_zero] | simp only [List.set_cons_succ]))
      refine AnyL.lateD (i := 10) (d := some 66) (v := ?_) rfl rfl (by kernel_rfl) (by kernel_rfl) (fun _ _ _ h => h) (by kernel_rfl) (by kernel_rfl) (Or.inl ⟨by rfl, ?_⟩) (fun _ => hHeld) ?_
      rotate_left 1
      focus (intro w hSw; (try dsimp only at hSw); go_simp; (try with_reducible rfl))
      (repeat (first | simp only [Act.put] | simp only [List.setIfInBounds_toArray] | simp only [List.set_cons_zero] | simp only [List.set_cons_succ]))
      refine AnyL.one (i := 12) (by kernel_rfl) rfl (fun K hK => ?_)
      go_simp
      refine hK.out _ _ (fun h => nomatch (show true = false from h)) (fun _ => ?_)
      clear hK K
      (try dsimp only)
      refine AnyL.one (i := 13) (by kernel_rfl) rfl (fun K hK => ?_)
      go_simp
      refine hK.out _ _ (fun h => nomatch (show true = false from h)) (fun _ => ?_)
      clear hK K
      (try dsimp only)
      refine AnyL.done (by kernel_rfl) ?_
      clear c0 c1 c2 c3 c4 c5 f0 f1 f2 f3 f4 f5
      go_wp2_with fail
      go_meet
      case rel => exact ⟨rfl, Lib.hid (w6_below HB8.out HGN.out _ _ _ _ _ _)⟩
  case rest =>
    obtain ⟨rfl, HBc⟩ := hcut
    rw [← hre]
    clear hre D1
    obtain ⟨c0, c1, c2, c3, c4, c5, ck, cf, cv, cn⟩ := HC.out _ HBc.out
    go_upto_region 10 with fail
    go_cut [92] (fun s92 W => s92 = .bool false ∧ Hid (Below W2.heap.size W2 W))
    case first =>
      by_cases e1 : num = pn
      · have HRE := Lib.hid (show re = 0 by rw [HRZ.out, if_pos e1])
        have t1 : ((num : Int) != (pn : Int)) = false := by simp [e1]
        have t2 : ((num : Int) == (pn : Int)) = true := by simp [e1]
        have t3 : (re != 0) = false := by rw [HRE.out]; rfl
        clear e1
        go_wp2_with fail
        go_meet
        case rel => exact ⟨rfl, HBc⟩
      · have HRE := Lib.hid (show re = 241 by rw [HRZ.out, if_neg e1])
        have e1' : (num : Int) ≠ (pn : Int) := by omega
        have t1 : ((num : Int) != (pn : Int)) = true := by simp [e1']
        have t2 : ((num : Int) == (pn : Int)) = false := by simp [e1']
        have t3 : (re != 241) = false := by rw [HRE.out]; rfl
        clear e1 e1'
        go_wp2_with fail
        go_meet
        case rel => exact ⟨rfl, HBc⟩
    case rest =>
      clear c0 c1 c2 c3 c4 c5 ck cf cv cn HBc
      obtain ⟨rfl, HBc⟩ := hcut
      obtain ⟨c0, c1, c2, c3, c4, c5, ck, cf, cv, cn⟩ := HC.out _ HBc.out
      go_wp2_with fail
      refine (split_any _ _ _ (polN ps c) (IsSl.below HKV.out HBc.out) (n : Int)).mono ?_
      rintro e W6 ⟨lv, rfl, hlv, hb6⟩
      have hcl : c < cl.length := by rw [← HN.out]; exact HCN.out.1
      have hfl : f < cl.length := by rw [← HN.out]; exact HCN.out.2
      rw [HN.out, splitD_eq HST.out hcl] at hlv
      rw [show splitD (polN ps c) (n : Int) = ((List.range cl.length).map fun i => (i + 1, hor (polN ps c) (i + 1)), 0) by rw [HN.out]; exact splitD_eq HST.out hcl]
      obtain ⟨L, hL⟩ : ∃ L, L = (List.range cl.length).map fun i => (i + 1, hor (polN ps c) (i + 1)) := ⟨_, rfl⟩
      have hLn : L.length = n := by rw [hL, HN.out]; simp
      have hLf : ∀ (h : f < L.length), L[f] = (f + 1, hor (polN ps c) (f + 1)) := fun h => by subst hL; simp
      rw [← hL] at hlv ⊢
      dsimp only at hlv ⊢
      obtain ⟨lA, lc, rfl, -⟩ := id hlv
      obtain ⟨b4, o4, rfl, hb4, hc40, hc41⟩ := IsShs.at_ (k := f) hlv (Below.refl _ _) (by rw [hLn]; exact HCN.out.2)
      rw [hLf (by rw [hLn]; exact HCN.out.2)] at hc40 hc41
      have HB6 := Lib.hid (HBc.out.trans (hb6.mono HBc.out.size))
      rw [hLn]
      clear hlv hb6 hL hLn hLf c0 c1 c2 c3 c4 c5 ck cf cv cn HBc
      obtain ⟨c0, c1, c2, c3, c4, c5, ck, cf, cv, cn⟩ := HC.out _ HB6.out
      have tn : ((n : Int) != (n : Int)) = false := by simp
      go_upto_region 15 with fail
      have D2 := Lib.hid (fun (W : World) (hW : Below W6.heap.size W6 W) => Lib.hid (openS_any W _ _ (stB cl t of ps n) ⟨nthI cl c, nthI cl f, (f + 1, num)⟩ (HBE2.out.below (HB6.out.trans (hW.mono HB6.out.size))) HSM.out HW64.out.1 HW64.out.2))
      obtain ⟨rz, hrz⟩ : ∃ z, z = openD (stB cl t of ps n) ⟨nthI cl c, nthI cl f, (f + 1, num)⟩ := ⟨_, rfl⟩
      rw [← hrz] at D2
      dsimp only at D2
      rw [← HXN.out.1, ← HXN.out.2.1] at D2
      have HRZ2 : Hid (rz.2 = if c ≠ f ∧ num = hor (polN ps c) (f + 1) then 0 else 241) := Lib.hid (by
        rw [hrz]; unfold openD
        rw [if_pos HOV.out.chk, HOV.out.done, HOV.out.opnB_eq HST.out hcl hfl]
        by_cases e : c ≠ f ∧ num = hor (polN ps c) (f + 1)
        · rw [if_pos e, decide_eq_true e]; rfl
        · rw [if_neg e, decide_eq_false e]; rfl)
      obtain ⟨re2, hre2⟩ : ∃ z, z = rz.2 := ⟨_, rfl⟩
      rw [← hre2] at HRZ2
      obtain ⟨yy, hyy⟩ : ∃ z, z = hor (polN ps c) (f + 1) := ⟨_, rfl⟩
      rw [← hyy] at HRZ2
      simp only [← hyy] at hc41
      have HD := Lib.hid (show ∀ W', Below W6.heap.size W6 W' → (W'.cell? ⟨g, 0, none⟩ = some (.slice y0 y1 y2) ∧ W'.cell? ⟨g, 1, none⟩ = some (.int .i64 y3) ∧ W'.cell? ⟨g, 2, none⟩ = some (.int .u64 y4) ∧ W'.cell? ⟨g, 3, none⟩ = some (.slice y5 y6 y7) ∧ W'.cell? ⟨g, 4, none⟩ = some (.slice y8 y9 y10) ∧ W'.cell? ⟨g, 5, none⟩ = some (.slice y11 y12 y13) ∧ W'.cell? ⟨b2, o2 + c, none⟩ = some (.int .i64 xk) ∧ W'.cell? ⟨b2, o2 + f, none⟩ = some (.int .i64 xf) ∧ W'.cell? ⟨b4, o4 + f * 2, none⟩ = some (.int .u64 ((f + 1 : Nat) : Int)) ∧ W'.cell? ⟨b4, o4 + f * 2 + 1, none⟩ = some (.int .u64 (yy : Int))) from fun W' h => by
        obtain ⟨c0, c1, c2, c3, c4, c5, ck, cf, cv, cn⟩ := HC.out _ (HB6.out.trans (h.mono HB6.out.size))
        exact ⟨c0, c1, c2, c3, c4, c5, ck, cf, (h.cell (p := ⟨b4, o4 + f * 2, none⟩) (lt_of_cell hc40)).trans hc40, (h.cell (p := ⟨b4, o4 + f * 2 + 1, none⟩) (lt_of_cell hc41)).trans hc41⟩)
      clear hb4 hc40 hc41 hyy hrz c0 c1 c2 c3 c4 c5 ck cf cv cn hcl hfl
      go_cut [22] (fun s22 W => s22 = .int .i64 rz.2 ∧ Hid (Below W6.heap.size W6 W))
      case first =>
        refine anyL_begin (z := 22) (S := fun W9 => Below W6.heap.size W6 W9) (by kernel_rfl) (Below.drew (Below.refl _ _)) (fun hHeld => ?_)
        refine AnyL.takeD (i := 0) (d := some 113) (v := ?_) rfl rfl (by kernel_rfl) (by kernel_rfl) (fun _ _ _ h => h) (by kernel_rfl) (by kernel_rfl) (by kernel_rfl) (Or.inl ⟨by rfl, ?_⟩) hHeld ?_
        rotate_left 1
        focus (intro w hSw; (try dsimp only at hSw); obtain ⟨c0, c1, c2, c3, c4, c5, ck, cf, cv, cn⟩ := HD.out w hSw; go_simp; (try with_reducible rfl))
        (repeat (first | simp only [Act.put] | simp only [List.setIfInBounds_toArray] | simp only [List.set_cons_zero] | simp only [List.set_cons_succ]))
        refine AnyL.takeD (i := 1) (d := some 114) (v := ?_) rfl rfl (by kernel_rfl) (by kernel_rfl) (fun _ _ _ h => h) (by kernel_rfl) (by kernel_rfl) (by kernel_rfl) (Or.inl ⟨by rfl, ?_⟩) hHeld ?_
        rotate_left 1
        focus (intro w hSw; (try dsimp only at hSw); go_simp; (try with_reducible rfl))
        (repeat (first | simp only [Act.put] | simp only [List.setIfInBounds_toArray] | simp only [List.set_cons_zero] | simp only [List.set_cons_succ]))
        refine AnyL.takeD (i := 2) (d := some 115) (v := ?_) rfl rfl (by kernel_rfl) (by kernel_rfl) (fun _ _ _ h => h) (by kernel_rfl) (by kernel_rfl) (by kernel_rfl) (Or.inl ⟨by rfl, ?_⟩) hHeld ?_
        rotate_left 1
        focus (intro w hSw; (try dsimp only at hSw); go_simp; (try with_reducible rfl))
        (repeat (first | simp only [Act.put] | simp only [List.setIfInBounds_toArray] | simp only [List.set_cons_zero] | simp only [List.set_cons_succ]))
        refine AnyL.takeD (i := 3) (d := some 116) (v := ?_) rfl rfl (by kernel_rfl) (by kernel_rfl) (fun _ _ _ h => h) (by kernel_rfl) (by kernel_rfl) (by kernel_rfl) (Or.inl ⟨by rfl, ?_⟩) hHeld ?_
        rotate_left 1
        focus (intro w hSw; (try dsimp only at hSw); go_simp; (try with_reducible rfl))
        (repeat (first | simp only [Act.put] | simp only [List.setIfInBounds_toArray] | simp only [List.set_cons_zero] | simp only [List.set_cons_succ]))
        refine AnyL.takeD (i := 4) (d := some 117) (v := ?_) rfl rfl (by kernel_rfl) (by kernel_rfl) (fun _ _ _ h => h) (by kernel_rfl) (by kernel_rfl) (by kernel_rfl) (Or.inl ⟨by rfl, ?_⟩) hHeld ?_
        rotate_left 1
        focus (intro w hSw; (try dsimp only at hSw); obtain ⟨c0, c1, c2, c3, c4, c5, ck, cf, cv, cn⟩ := HD.out w hSw; go_simp; (try with_reducible rfl))
        (repeat (first | simp only [Act.put] | simp only [List.setIfInBounds_toArray] | simp only [List.set_cons_zero] | simp only [List.set_cons_succ]))
        refine AnyL.takeD (i := 5) (d := some 118) (v := ?_) rfl rfl (by kernel_rfl) (by kernel_rfl) (fun _ _ _ h => h) (by kernel_rfl) (by kernel_rfl) (by kernel_rfl) (Or.inl ⟨by rfl, ?_⟩) hHeld ?_
        rotate_left 1
        focus (intro w hSw; (try dsimp only at hSw); go_simp; (try with_reducible rfl))
        (repeat (first | simp only [Act.put] | simp only [List.setIfInBounds_toArray] | simp only [List.set_cons_zero] | simp only [List.set_cons_succ]))
        refine AnyL.takeD (i := 6) (d := some 119) (v := ?_) rfl rfl (by kernel_rfl) (by kernel_rfl) (fun _ _ _ h => h) (by kernel_rfl) (by kernel_rfl) (by kernel_rfl) (Or.inl ⟨by rfl, ?_⟩) hHeld ?_
        rotate_left 1
        focus (intro w hSw; (try dsimp only at hSw); go_simp; (try with_reducible rfl))
        (repeat (first | simp only [Act.put] | simp only [List.setIfInBounds_toArray] | simp only [List.set_cons_zero] | simp only [List.set_cons_succ]))
        refine AnyL.takeD (i := 7) (d := some 120) (v := ?_) rfl rfl (by kernel_rfl) (by kernel_rfl) (fun _ _ _ h => h) (by kernel_rfl) (by kernel_rfl) (by kernel_rfl) (Or.inl ⟨by rfl, ?_⟩) hHeld ?_
        rotate_left 1
        focus (intro w hSw; (try dsimp only at hSw); go_simp; (try with_reducible rfl))
        (repeat (first | simp only [Act.put] | simp only [List.setIfInBounds_toArray] | simp only [List.set_cons_zero] | simp only [List.set_cons_succ]))
        refine AnyL.takeD (i := 8) (d := some 121) (v := ?_) rfl rfl (by kernel_rfl) (by kernel_rfl) (fun _ _ _ h => h) (by kernel_rfl) (by kernel_rfl) (by kernel_rfl) (Or.inl ⟨by rfl, ?_⟩) hHeld ?_
        rotate_left 1
        focus (intro w hSw; (try dsimp only at hSw); obtain ⟨c0, c1, c2, c3, c4, c5, ck, cf, cv, cn⟩ := HD.out w hSw; go_simp; (try with_reducible rfl))
        (repeat (first | simp only [Act.put] | simp only [List.setIfInBounds_toArray] | simp only [List.set_cons_zero] | simp only [List.set_cons_succ]))
        refine AnyL.takeD (i := 9) (d := some 122) (v := ?_) rfl rfl (by kernel_rfl) (by kernel_rfl) (fun _ _ _ h => h) (by kernel_rfl) (by kernel_rfl) (by kernel_rfl) (Or.inl ⟨by rfl, ?_⟩) hHeld ?_
        rotate_left 1
        focus (intro w hSw; (try dsimp only at hSw); go_simp; (try with_reducible rfl))
        (repeat (first | simp only [Act.put] | simp only [List.setIfInBounds_toArray] | simp only [List.set_cons_zero] | simp only [List.set_cons_succ]))
        refine AnyL.takeD (i := 10) (d := some 123) (v := ?_) rfl rfl (by kernel_rfl) (by kernel_rfl) (fun _ _ _ h => h) (by kernel_rfl) (by kernel_rfl) (by kernel_rfl) (Or.inl ⟨by rfl, ?_⟩) hHeld ?_
        rotate_left 1
        focus (intro w hSw; (try dsimp only at hSw); go_simp; (try with_reducible rfl))
        (repeat (first | simp only [Act.put] | simp only [List.setIfInBounds_toArray] | simp only [List.set_cons_zero] | simp only [List.set_cons_succ]))
        refine AnyL.takeD (i := 11) (d := some 124) (v := ?_) rfl rfl (by kernel_rfl) (by kernel_rfl) (fun _ _ _ h => h) (by kernel_rfl) (by kernel_rfl) (by kernel_rfl) (Or.inl ⟨by rfl, ?_⟩) hHeld ?_
        rotate_left 1
        focus (intro w hSw; (try dsimp only at hSw); go_simp; (try with_reducible rfl))
        (repeat (first | simp only [Act.put] | simp only [List.setIfInBounds_toArray] | simp only [List.set_cons_zero] | simp only [List.set_cons_succ]))
        refine AnyL.takeD (i := 12) (d := some 125) (v := ?_) rfl rfl (by kernel_rfl) (by kernel_rfl) (fun _ _ _ h => h) (by kernel_rfl) (by kernel_rfl) (by kernel_rfl) (Or.inl ⟨by rfl, ?_⟩) hHeld ?_
        rotate_left 1
        focus (intro w hSw; (try dsimp only at hSw); go_simp; (try with_reducible rfl))
        (repeat (first | simp only [Act.put] | simp only [List.setIfInBounds_toArray] | simp only [List.set_cons_zero] | simp only [List.set_cons_succ]))
        refine AnyL.takeD (i := 13) (d := some 126) (v := ?_) rfl rfl (by kernel_rfl) (by kernel_rfl) (fun _ _ _ h => h) (by kernel_rfl) (by kernel_rfl) (by kernel_rfl) (Or.inl ⟨by rfl, ?_⟩) hHeld ?_
        rotate_left 1
        focus (intro w hSw; (try dsimp only at hSw); obtain ⟨c0, c1, c2, c3, c4, c5, ck, cf, cv, cn⟩ := HD.out w hSw; go_simp; (try with_reducible rfl))
        (repeat (first | simp only [Act.put] | simp only [List.setIfInBounds_toArray] | simp only [List.set_cons_zero] | simp only [List.set_cons_succ]))
        refine AnyL.takeD (i := 14) (d := some 127) (v := ?_) rfl rfl (by kernel_rfl) (by kernel_rfl) (fun _ _ _ h => h) (by kernel_rfl) (by kernel_rfl) (by kernel_rfl) (Or.inl ⟨by rfl, ?_⟩) hHeld ?_
        rotate_left 1
        focus (intro w hSw; (try dsimp only at hSw); go_simp; (try with_reducible rfl))
        (repeat (first | simp only [Act.put] | simp only [List.setIfInBounds_toArray] | simp only [List.set_cons_zero] | simp only [List.set_cons_succ]))
        refine AnyL.takeD (i := 15) (d := some 128) (v := ?_) rfl rfl (by kernel_rfl) (by kernel_rfl) (fun _ _ _ h => h) (by kernel_rfl) (by kernel_rfl) (by kernel_rfl) (Or.inl ⟨by rfl, ?_⟩) hHeld ?_
        rotate_left 1
        focus (intro w hSw; (try dsimp only at hSw); go_simp; (try with_reducible rfl))
        (repeat (first | simp only [Act.put] | simp only [List.setIfInBounds_toArray] | simp only [List.set_cons_zero] | simp only [List.set_cons_succ]))
        refine AnyL.takeD (i := 16) (d := some 129) (v := ?_) rfl rfl (by kernel_rfl) (by kernel_rfl) (fun _ _ _ h => h) (by kernel_rfl) (by kernel_rfl) (by kernel_rfl) (Or.inl ⟨by rfl, ?_⟩) hHeld ?_
        rotate_left 1
        focus (intro w hSw; (try dsimp only at hSw); go_simp; (try with_reducible rfl))
        (repeat (first | simp only [Act.put] | simp only [List.setIfInBounds_toArray] | simp only [List.set_cons_zero] | simp only [List.set_cons_succ]))
        have HBa : Hid (Below W6.heap.size W6 W6.drew) := Lib.hid (Below.drew (Below.refl _ _))
        refine AnyL.two (i := 17) (j := 21) (by kernel_rfl) rfl rfl (fun K hK => ?_) (fun K hK => ?_)
        · skip
          go_simp
          go_at_call 17
          refine ((D2.out _ HBa.out).out).mono ?_
          rintro e w7 ⟨bv, rfl, hbv, hb7⟩
          have HB7 := Lib.hid (HBa.out.trans (hb7.mono HBa.out.size))
          obtain ⟨gn, hgn⟩ : ∃ g, g = w7.heap.size := ⟨_, rfl⟩
          have HGN : Hid (W6.heap.size ≤ gn) := Lib.hid (by rw [hgn]; exact HB7.out.size)
          obtain ⟨z0, z1, z2, z3, z4, z5, z6, z7, z8, z9, z10, z11, z12, z13, rfl⟩ := hbv.shape
          have HGE := Lib.hid hgn
          clear hbv hb7 hgn
          refine hK.out _ _ (fun _ => HB7.out) (fun hHeld => ?_)
          replace hHeld := hHeld (by kernel_rfl)
          clear hK K
          (repeat (first | simp only [Act.put] | simp only [List.setIfInBounds_toArray] | simp only [List.set_cons_zero] | simp only [List.set_cons_succ]))
          refine AnyL.takeD (i := 18) (d := some 112) (v := ?_) rfl rfl (by kernel_rfl) (by kernel_rfl) (fun _ _ _ h => h) (by kernel_rfl) (by kernel_rfl) (by kernel_rfl) (Or.inl ⟨by rfl, ?_⟩) hHeld ?_
          rotate_left 1
          focus (intro w hSw; (try dsimp only at hSw); go_simp; (try with_reducible rfl))
          (repeat (first | simp only [Act.put] | simp only [List.setIfInBounds_toArray] | simp only [List.set_cons_zero] | simp only [List.set_cons_succ]))
          refine AnyL.takeD (i := 19) (d := some 131) (v := ?_) rfl rfl (by kernel_rfl) (by kernel_rfl) (fun _ _ _ h => h) (by kernel_rfl) (by kernel_rfl) (by kernel_rfl) (Or.inl ⟨by rfl, ?_⟩) hHeld ?_
          rotate_left 1
          focus (intro w hSw; (try dsimp only at hSw); go_simp; (try with_reducible rfl))
          (repeat (first | simp only [Act.put] | simp only [List.setIfInBounds_toArray] | simp only [List.set_cons_zero] | simp only [List.set_cons_succ]))
          refine AnyL.lateD (i := 20) (d := some 132) (v := ?_) rfl rfl (by kernel_rfl) (by kernel_rfl) (fun _ _ _ h => h) (by kernel_rfl) (by kernel_rfl) (Or.inl ⟨by rfl, ?_⟩) (fun _ => hHeld) ?_
          rotate_left 1
          focus (intro w hSw; (try dsimp only at hSw); go_simp; (try with_reducible rfl))
          (repeat (first | simp only [Act.put] | simp only [List.setIfInBounds_toArray] | simp only [List.set_cons_zero] | simp only [List.set_cons_succ]))
          refine AnyL.one (i := 21) (by kernel_rfl) rfl (fun K hK => ?_)
          go_simp
          refine nameG (w := w7.alloc (.cells #[.slice none 0 0, .int .i64 0, .int .u64 0, .slice none 0 0, .slice none 0 0, .slice none 0 0] 32)) (p := fun W => K _ W) fun w8 hw8 => ?_
          have hb8w : Below w7.heap.size w7 w8 := by rw [hw8.out]; exact (Below.refl _ _).alloc (Nat.le_refl _) _
          have g8 : w8.heap[gn]? = some (.cells #[.slice none 0 0, .int .i64 0, .int .u64 0, .slice none 0 0, .slice none 0 0, .slice none 0 0] 32 (0, 0)) := by rw [hw8.out, HGE.out]; exact heap_alloc_new _ _
          rw [← HGE.out]
          have HB8 := Lib.hid (HB7.out.trans (hb8w.mono HB7.out.size))
          obtain ⟨⟨c0, c1, c2, c3, c4, c5⟩, ⟨f0, f1, f2, f3, f4, f5⟩⟩ := blk6 g8
          clear hb8w g8 hw8 HB7
          refine hK.out _ _ (fun _ => HB8.out) (fun hHeld => ?_)
          replace hHeld := hHeld (by kernel_rfl)
          clear hK K
          (repeat (first | simp only [Act.put] | simp only [List.setIfInBounds_toArray] | simp only [List.set_cons_zero] | simp only [List.set_cons_succ]))
          refine AnyL.one (i := 22) (by kernel_rfl) rfl (fun K hK => ?_)
          go_simp
          refine hK.out _ _ (fun h => nomatch (show true = false from h)) (fun _ => ?_)
          clear hK K
          (try dsimp only)
          refine AnyL.one (i := 23) (by kernel_rfl) rfl (fun K hK => ?_)
          go_simp
          refine hK.out _ _ (fun h => nomatch (show true = false from h)) (fun _ => ?_)
          clear hK K
          (try dsimp only)
          refine AnyL.done (by kernel_rfl) ?_
          clear c0 c1 c2 c3 c4 c5 f0 f1 f2 f3 f4 f5
          go_wp2_with fail
          go_meet
          case rel => exact ⟨rfl, Lib.hid (w6_below HB8.out HGN.out _ _ _ _ _ _)⟩
        · skip
          go_simp
          refine nameG (w := W6.drew.alloc (.cells #[.slice none 0 0, .int .i64 0, .int .u64 0, .slice none 0 0, .slice none 0 0, .slice none 0 0] 32)) (p := fun W => K _ W) fun w7 hw7 => ?_
          obtain ⟨gn, hgn⟩ : ∃ g, g = W6.heap.size := ⟨_, rfl⟩
          have HGN : Hid (W6.heap.size ≤ gn) := Lib.hid (by rw [hgn]; exact Nat.le_refl _)
          have g7 : w7.heap[gn]? = some (.cells #[.slice none 0 0, .int .i64 0, .int .u64 0, .slice none 0 0, .slice none 0 0, .slice none 0 0] 32 (0, 0)) := by rw [hw7.out, hgn]; exact heap_alloc_new _ _
          have HB7 : Hid (Below W6.heap.size W6 w7) := Lib.hid (by rw [hw7.out]; exact HBa.out.alloc HBa.out.size _)
          rw [← hgn]
          have G7 := Lib.hid g7
          clear hgn g7 hw7
          refine hK.out _ _ (fun _ => HB7.out) (fun hHeld => ?_)
          replace hHeld := hHeld (by kernel_rfl)
          clear hK K
          (repeat (first | simp only [Act.put] | simp only [List.setIfInBounds_toArray] | simp only [List.set_cons_zero] | simp only [List.set_cons_succ]))
          refine AnyL.one (i := 17) (by kernel_rfl) rfl (fun K hK => ?_)
          go_simp
          go_at_call 17
          refine ((D2.out _ HB7.out).out).mono ?_
          rintro e w8 ⟨bv, rfl, hbv, hb8⟩
          have HB8 := Lib.hid (HB7.out.trans (hb8.mono HB7.out.size))
          have g8 := (hb8.block _ (lt_heap G7.out)).trans G7.out
          obtain ⟨z0, z1, z2, z3, z4, z5, z6, z7, z8, z9, z10, z11, z12, z13, rfl⟩ := hbv.shape
          obtain ⟨⟨c0, c1, c2, c3, c4, c5⟩, ⟨f0, f1, f2, f3, f4, f5⟩⟩ := blk6 g8
          clear hbv hb8 g8 HB7 G7
          refine hK.out _ _ (fun _ => HB8.out) (fun hHeld => ?_)
          replace hHeld := hHeld (by kernel_rfl)
          clear hK K
          (repeat (first | simp only [Act.put] | simp only [List.setIfInBounds_toArray] | simp only [List.set_cons_zero] | simp only [List.set_cons_succ]))
          refine AnyL.takeD (i := 18) (d := some 112) (v := ?_) rfl rfl (by kernel_rfl) (by kernel_rfl) (fun _ _ _ h => h) (by kernel_rfl) (by kernel_rfl) (by kernel_rfl) (Or.inl ⟨by rfl, ?_⟩) hHeld ?_
          rotate_left 1
          focus (intro w hSw; (try dsimp only at hSw); go_simp; (try with_reducible rfl))
          (repeat (first | simp only [Act.put] | simp only [List.setIfInBounds_toArray] | simp only [List.set_cons_zero] | simp only [List.set_cons_succ]))
          refine AnyL.takeD (i := 19) (d := some 131) (v := ?_) rfl rfl (by kernel_rfl) (by kernel_rfl) (fun _ _ _ h => h) (by kernel_rfl) (by kernel_rfl) (by kernel_rfl) (Or.inl ⟨by rfl, ?_⟩) hHeld ?_
          rotate_left 1
          focus (intro w hSw; (try dsimp only at hSw); go_simp; (try with_reducible rfl))
          (repeat (first | simp only [Act.put] | simp only [List.setIfInBounds_toArray] | simp only [List.set_cons_zero] | simp only [List.set_cons_succ]))
          refine AnyL.lateD (i := 20) (d := some 132) (v := ?_) rfl rfl (by kernel_rfl) (by kernel_rfl) (fun _ _ _ h => h) (by kernel_rfl) (by kernel_rfl) (Or.inl ⟨by rfl, ?_⟩) (fun _ => hHeld) ?_
          rotate_left 1
          focus (intro w hSw; (try dsimp only at hSw); go_simp; (try with_reducible rfl))
          (repeat (first | simp only [Act.put] | simp only [List.setIfInBounds_toArray] | simp only [List.set_cons_zero] | simp only [List.set_cons_succ]))
          refine AnyL.one (i := 22) (by kernel_rfl) rfl (fun K hK => ?_)
          go_simp
          refine hK.out _ _ (fun h => nomatch (show true = false from h)) (fun _ => ?_)
          clear hK K
          (try dsimp only)
          refine AnyL.one (i := 23) (by kernel_rfl) rfl (fun K hK => ?_)
          go_simp
          refine hK.out _ _ (fun h => nomatch (show true = false from h)) (fun _ => ?_)
          clear hK K
          (try dsimp only)
          refine AnyL.done (by kernel_rfl) ?_
          clear c0 c1 c2 c3 c4 c5 f0 f1 f2 f3 f4 f5
          go_wp2_with fail
          go_meet
          case rel => exact ⟨rfl, Lib.hid (w6_below HB8.out HGN.out _ _ _ _ _ _)⟩
      case rest =>
        obtain ⟨rfl, HBc⟩ := hcut
        rw [← hre2]
        clear hre2 D2
        obtain ⟨c0, c1, c2, c3, c4, c5, ck, cf, cv, cn⟩ := HD.out _ HBc.out
        have HBF := Lib.hid (HB2.out.trans ((HB6.out.trans (HBc.out.mono HB6.out.size)).mono HB2.out.size))
        by_cases hcf : c = f
        · have HRE := Lib.hid (show re2 = 241 by rw [HRZ2.out, if_neg (fun h => h.1 hcf)])
          have t1 : ((c : Int) != (f : Int)) = false := by simp [hcf]
          rw [HRE.out]
          clear hcf
          go_wp2_with fail
          go_ret
          exact ⟨rfl, HBF.out⟩
        · have hcf' : (c : Int) ≠ (f : Int) := by omega
          have t1 : ((c : Int) != (f : Int)) = true := by simp [hcf']
          by_cases e1 : num = yy
          · have HRE := Lib.hid (show re2 = 0 by rw [HRZ2.out, if_pos ⟨hcf, e1⟩])
            have t2 : ((num : Int) == (yy : Int)) = true := by simp [e1]
            rw [HRE.out]
            clear hcf hcf' e1
            go_wp2_with fail
            go_ret
            exact ⟨rfl, HBF.out⟩
          · have HRE := Lib.hid (show re2 = 241 by rw [HRZ2.out, if_neg (fun h => e1 h.2)])
            have e1' : (num : Int) ≠ (yy : Int) := by omega
            have t2 : ((num : Int) == (yy : Int)) = false := by simp [e1']
            rw [HRE.out]
            clear hcf hcf' e1 e1'
            go_wp2_with fail
            go_ret
            exact ⟨rfl, HBF.out⟩
end Go.Proofs.Ytgaanndidcdbpaa
