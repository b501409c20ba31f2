/- The number that drawn answers. -/
import Derived.Test.YtgaanndidcdbpaaW4
import Derived.Test.YtgaanndidcdbpaaT20
import Derived.Test.YtgaanndidcdbpaaZI
import Derived.BigQuiet
namespace Go.Proofs.Ytgaanndidcdbpaa
open Go.RowKit Go.Shelf

/-- a box that holds a beacon; nothing of the beacon lies in the box, nor in box gx -/
def BoxG (w : World) (g gx : Nat) (b : BeaD) : Prop := ∃ (y0 : Option Addr) (y1 y2 : Nat) (y3 y4 : Int) (y5 : Option Addr) (y6 y7 : Nat) (y8 : Option Addr) (y9 y10 : Nat) (y11 : Option Addr) (y12 y13 : Nat), w.heap[g]? = some (.cells #[.slice y0 y1 y2, .int .i64 y3, .int .u64 y4, .slice y5 y6 y7, .slice y8 y9 y10, .slice y11 y12 y13] 32 (0, 0)) ∧ IsBea w (fun q => q ≠ g ∧ q ≠ gx) (.agg #[.slice y0 y1 y2, .int .i64 y3, .int .u64 y4, .slice y5 y6 y7, .slice y8 y9 y10, .slice y11 y12 y13]) b
theorem Po.w64 {cl : List Int} {t : Int} {of : Nat} {ps : List (List Nat)} (h : Po cl t of ps) : ∀ i, i < cl.length → W64 (nthI cl i) := fun i hi => by
  have := h.new.club i hi
  unfold clubOk at this
  unfold W64
  omega
theorem Po.u64 {cl : List Int} {t : Int} {of : Nat} {ps : List (List Nat)} (h : Po cl t of ps) {k : Nat} (hk : k < cl.length) : U64s (polN ps k) := fun x hx => Nat.lt_trans (h.lt k hk x hx) (by decide)
theorem Po.p0lt {cl : List Int} {t : Int} {of : Nat} {ps : List (List Nat)} (h : Po cl t of ps) {k : Nat} (hk : k < cl.length) : p0 ps k < 18446744073709551616 := Nat.lt_trans (pol_lt h.st hk).1 (by decide)
set_option maxRecDepth 100000 in
set_option maxHeartbeats 8000000 in
theorem drawn_any (w : World) (M M' M'' : Nat → Prop) (v u sv : Value) (cl : List Int) (t : Int) (of : Nat) (ps : List (List Nat)) (bs : List Bool) (ha : IsInts w M v cl) (hp : IsPol w M' u ps) (hbs : IsBools w M'' sv bs) (hbl : cl.length ≤ bs.length) (hP : Po cl t of ps) :
    Calls Try.prog 24 #[v, .int .i64 t, .int .u64 (of : Int), u, sv] w (fun e w' => e = .returned (.tuple #[.int .u64 (wantTo of ps cl.length : Int), .bool true]) ∧ Below w.heap.size w w') := by
  have HP := Lib.hid hP
  have HST := Lib.hid hP.st
  have HW64 := Lib.hid hP.w64
  have HA := Lib.hid ha
  have HPO := Lib.hid hp
  have HBS := Lib.hid hbs
  have HBL := Lib.hid hbl
  obtain ⟨aA, ac, rfl, -⟩ := id ha
  obtain ⟨pA, pc, rfl, -, -⟩ := hp.len
  obtain ⟨sA, sc, rfl, -⟩ := id hbs
  have DN := Lib.hid (new_any w M _ cl t of ha)
  rw [hP.newD] at DN
  have hn24 : cl.length ≤ 24 := hP.new.n24
  have hn2 : 2 ≤ cl.length := hP.new.n2
  have ht1 : 1 ≤ t := hP.new.t1
  have htn : t < (cl.length : Int) := hP.new.tn
  obtain ⟨n, hn⟩ : ∃ n, n = cl.length := ⟨_, rfl⟩
  have HN := Lib.hid hn
  obtain ⟨wa, hwa⟩ : ∃ z, z = wantTo of ps cl.length := ⟨_, rfl⟩
  have HWA := Lib.hid hwa
  rw [← hwa]
  rw [← hn] at HA hn24 hn2 htn DN ⊢
  have hpl : ps.length = n := by rw [hn]; exact hP.len
  obtain ⟨sl, hsl⟩ : ∃ z, z = bs.length := ⟨_, rfl⟩
  rw [← hsl] at HBS ⊢
  have hsl9 : n ≤ sl := by rw [hn, hsl]; exact hbl
  have HSL := Lib.hid hsl
  rw [hpl] at HPO ⊢
  have HPL := Lib.hid hpl
  clear ha hp hbs hbl hP hn hwa hpl hsl
  go_enter Try.func24, Try.ntmps24
  go_wp2_with fail
  refine DN.out.mono ?_
  rintro e W1 ⟨bv, rfl, hbv, hb⟩
  dsimp only at hbv ⊢
  obtain ⟨y0, y1, y2, y3, y4, y5, y6, y7, y8, y9, y10, y11, y12, y13, rfl⟩ := hbv.shape
  have HV := Lib.hid hbv
  have HB1 := Lib.hid hb
  clear hbv hb DN
  go_upto_region 2 with fail
  refine nameC fun W2 hW2 => ?_
  have hb2 : Below W1.heap.size W1 W2 := by rw [hW2.out]; exact (Below.refl _ _).alloc (Nat.le_refl _) _
  have g2 : W2.heap[W1.heap.size]? = some (.cells #[.slice y0 y1 y2, .int .i64 y3, .int .u64 y4, .slice y5 y6 y7, .slice y8 y9 y10, .slice y11 y12 y13] 32 (0, 0)) := by rw [hW2.out]; exact heap_alloc_new _ _
  obtain ⟨gx, hgx⟩ : ∃ g, g = W1.heap.size := ⟨_, rfl⟩
  rw [← hgx] at g2 ⊢
  have hgl : w.heap.size ≤ gx := by rw [hgx]; exact HB1.out.size
  have HBX : Hid (BoxN W2 gx (stB cl t of ps 0)) := Lib.hid ⟨y0, y1, y2, y3, y4, y5, y6, y7, y8, y9, y10, y11, y12, y13, g2, IsBea.mono (M' := fun q => q ≠ gx) (IsBea.below (IsBea.mono (M' := fun q => q ≠ gx) HV.out (fun q hq _ => by show q ≠ gx; omega)) hb2) (fun q _ h => h)⟩
  have HB := Lib.hid (HB1.out.trans (hb2.mono HB1.out.size))
  clear hW2 hb2 g2 hgx HV HB1
  go_wp2_with fail
  go_loopw [14] (fun s14 wr => ∃ k : Nat, k ≤ n ∧ s14 = .int .i64 (k : Int) ∧ Hid (BoxN wr gx (stB cl t of ps k)) ∧ Hid (Below w.heap.size w wr)) (fun s14 _ => n - (intOf s14).toNat)
  case atStart => exact ⟨0, Nat.zero_le _, rfl, HBX, HB⟩
  case round =>
    clear HBX HB
    obtain ⟨k, hk, rfl, HBX, HB⟩ := hrel
    by_cases hlt : k < n
    · as_aux_lemma =>
        have hk1 : (k : Int) < (n : Int) := by omega
        have hk0 : (0 : Int) ≤ (k : Int) := by omega
        have hkc : k < cl.length := by rw [← HN.out]; exact hlt
        have HKC := Lib.hid hkc
        obtain ⟨b1, o1, vA, vc, rfl, hb1, hc1, hkv⟩ := HPO.out.at_ HB.out (show k < ps.length by rw [HPL.out]; exact hlt)
        have D1 := Lib.hid (powers_any wr _ _ (polN ps k) hkv (HP.out.u64 hkc))
        obtain ⟨pl, hpl⟩ : ∃ z, z = (polN ps k).length := ⟨_, rfl⟩
        rw [← hpl] at hc1 D1
        clear hpl hkv hb1
        go_wp2_with fail
        refine D1.out.mono ?_
        rintro e W4 ⟨pv, rfl, hpv, hb4⟩
        rw [show (powersD (polN ps k)).2 = 0 from HP.out.powers HKC.out]
        have HB4 := Lib.hid (HB.out.trans (hb4.mono HB.out.size))
        have HBX4 := Lib.hid (HBX.out.below hb4)
        have hgx : gx < wr.heap.size := HBX.out.lt
        have hs4 := hb4.size
        have HPV := Lib.hid (IsSl.mono (M' := fun q => q < W4.heap.size ∧ q ≠ gx) hpv (fun q hq (h : wr.heap.size ≤ q) => ⟨hq, by omega⟩) (by omega))
        obtain ⟨qA, qc, rfl, -⟩ := id hpv
        obtain ⟨ag, ao, rfl, hag, hac⟩ := HA.out.at_ HB4.out hkc
        clear hb4 hpv D1 hc1 HBX HB
        have hgx4 : gx < W4.heap.size := by omega
        clear hgx hs4
        obtain ⟨x0, x1, x2, x3, x4, x5, x6, x7, x8, x9, x10, x11, x12, x13, hkx, hbe⟩ := HBX4.out
        obtain ⟨⟨c0, c1, c2, c3, c4, c5⟩, ⟨f0, f1, f2, f3, f4, f5⟩⟩ := blk6 hkx
        obtain ⟨yc, hyc⟩ : ∃ z, z = nthI cl k := ⟨_, rfl⟩
        obtain ⟨ql, hql⟩ : ∃ z, z = (powersD (polN ps k)).1.length := ⟨_, rfl⟩
        have HSMK := Lib.hid (stB_small (ps := ps) HST.out.new HW64.out (Nat.le_of_lt hkc))
        have D1 := Lib.hid (show ∀ W, Below W4.heap.size W4 W → Hid (Calls Try.prog 20 #[.agg #[.slice x0 x1 x2, .int .i64 x3, .int .u64 x4, .slice x5 x6 x7, .slice x8 x9 x10, .slice x11 x12 x13], .agg #[.int .i64 yc, .slice qA ql qc]] W (BeaE W (fun q => (q < W4.heap.size ∧ q ≠ gx) ∨ W.heap.size ≤ q) (stB cl t of ps (k + 1), 0))) from fun W hW => Lib.hid (by
          have y := commit_any W (fun q => q < W4.heap.size ∧ q ≠ gx) (fun q => q < W4.heap.size ∧ q ≠ gx) _ (.agg #[.int .i64 (polC cl ps k).club, .slice qA (powersD (polN ps k)).1.length qc]) _ (polC cl ps k) (IsBea.below (IsBea.mono hbe (fun q hq h => ⟨hq, h⟩)) hW) HSMK.out ⟨_, rfl, IsSl.below HPV.out hW⟩ (HW64.out k HKC.out) (by
            show (powersD (polN ps k)).1.length ≤ _
            rw [(pol_lt HST.out HKC.out).2, List.length_map]
            have := HP.out.pl k HKC.out
            have := HP.out.new.tn
            have := HP.out.new.n24
            omega)
          rw [HP.out.commit HKC.out] at y
          rw [hyc, hql]
          exact y.mono fun e w' ⟨v, q1, q2, q3⟩ => ⟨v, q1, IsBea.mono q2 (fun q _ hq => by
            rcases hq with hq | hq | hq
            · exact Or.inl hq
            · exact Or.inl hq
            · exact Or.inr hq), q3⟩))
        rw [← hyc] at hac
        rw [← hql]
        obtain ⟨rz, hrz⟩ : ∃ z, z = (stB cl t of ps (k + 1), (0 : Int)) := ⟨_, rfl⟩
        have HRZ := Lib.hid hrz
        rw [← hrz] at D1
        have HC := Lib.hid (show ∀ W', Below W4.heap.size W4 W' → (W'.cell? ⟨gx, 0, none⟩ = some (.slice x0 x1 x2) ∧ W'.cell? ⟨gx, 1, none⟩ = some (.int .i64 x3) ∧ W'.cell? ⟨gx, 2, none⟩ = some (.int .u64 x4) ∧ W'.cell? ⟨gx, 3, none⟩ = some (.slice x5 x6 x7) ∧ W'.cell? ⟨gx, 4, none⟩ = some (.slice x8 x9 x10) ∧ W'.cell? ⟨gx, 5, none⟩ = some (.slice x11 x12 x13) ∧ W'.cell? ⟨ag, ao + k, none⟩ = some (.int .i64 yc)) from fun W' h => by
          have e0 := (h.block _ (lt_heap hkx)).trans hkx
          exact ⟨cell_of e0 rfl, cell_of e0 rfl, cell_of e0 rfl, cell_of e0 rfl, cell_of e0 rfl, cell_of e0 rfl, (h.cell (p := ⟨ag, ao + k, none⟩) (lt_of_cell hac)).trans hac⟩)
        clear hyc hql hkx hbe hac hag hrz hkc HPV
        go_upto_region 8 with fail
        go_cut [17, 18] (fun s17 s18 W => ∃ gn, s17 = .pointer (some ⟨gn, 0, none⟩) ∧ s18 = .int .i64 rz.2 ∧ Hid (BoxG W gn gx rz.1) ∧ Hid (Below W4.heap.size W4 W))
        case first =>
          refine anyL_begin (z := 12) (S := fun W9 => Below W4.heap.size W4 W9) (by kernel_rfl) (Below.drew (Below.refl _ _)) (fun hHeld => ?_)
          refine AnyL.takeD (i := 0) (d := some 54) (v := ?_) rfl rfl (by kernel_rfl) (by kernel_rfl) (fun _ _ _ h => h) (by kernel_rfl) (by kernel_rfl) (by kernel_rfl) (Or.inl ⟨by rfl, ?_⟩) hHeld ?_
          rotate_left 1
          focus (intro w hSw; (try dsimp only at hSw); obtain ⟨c0, c1, c2, c3, c4, c5, ck⟩ := HC.out w hSw; go_simp; (try with_reducible rfl))
          (repeat (first | simp only [Act.put] | simp only [List.setIfInBounds_toArray] | simp only [List.set_cons_zero] | simp only [List.set_cons_succ]))
          refine AnyL.takeD (i := 1) (d := some 55) (v := ?_) rfl rfl (by kernel_rfl) (by kernel_rfl) (fun _ _ _ h => h) (by kernel_rfl) (by kernel_rfl) (by kernel_rfl) (Or.inl ⟨by rfl, ?_⟩) hHeld ?_
          rotate_left 1
          focus (intro w hSw; (try dsimp only at hSw); go_simp; (try with_reducible rfl))
          (repeat (first | simp only [Act.put] | simp only [List.setIfInBounds_toArray] | simp only [List.set_cons_zero] | simp only [List.set_cons_succ]))
          refine AnyL.takeD (i := 2) (d := some 56) (v := ?_) rfl rfl (by kernel_rfl) (by kernel_rfl) (fun _ _ _ h => h) (by kernel_rfl) (by kernel_rfl) (by kernel_rfl) (Or.inl ⟨by rfl, ?_⟩) hHeld ?_
          rotate_left 1
          focus (intro w hSw; (try dsimp only at hSw); go_simp; (try with_reducible rfl))
          (repeat (first | simp only [Act.put] | simp only [List.setIfInBounds_toArray] | simp only [List.set_cons_zero] | simp only [List.set_cons_succ]))
          refine AnyL.takeD (i := 3) (d := some 57) (v := ?_) rfl rfl (by kernel_rfl) (by kernel_rfl) (fun _ _ _ h => h) (by kernel_rfl) (by kernel_rfl) (by kernel_rfl) (Or.inl ⟨by rfl, ?_⟩) hHeld ?_
          rotate_left 1
          focus (intro w hSw; (try dsimp only at hSw); go_simp; (try with_reducible rfl))
          (repeat (first | simp only [Act.put] | simp only [List.setIfInBounds_toArray] | simp only [List.set_cons_zero] | simp only [List.set_cons_succ]))
          refine AnyL.takeD (i := 4) (d := some 58) (v := ?_) rfl rfl (by kernel_rfl) (by kernel_rfl) (fun _ _ _ h => h) (by kernel_rfl) (by kernel_rfl) (by kernel_rfl) (Or.inl ⟨by rfl, ?_⟩) hHeld ?_
          rotate_left 1
          focus (intro w hSw; (try dsimp only at hSw); obtain ⟨c0, c1, c2, c3, c4, c5, ck⟩ := HC.out w hSw; go_simp; (try with_reducible rfl))
          (repeat (first | simp only [Act.put] | simp only [List.setIfInBounds_toArray] | simp only [List.set_cons_zero] | simp only [List.set_cons_succ]))
          refine AnyL.takeD (i := 5) (d := some 59) (v := ?_) rfl rfl (by kernel_rfl) (by kernel_rfl) (fun _ _ _ h => h) (by kernel_rfl) (by kernel_rfl) (by kernel_rfl) (Or.inl ⟨by rfl, ?_⟩) hHeld ?_
          rotate_left 1
          focus (intro w hSw; (try dsimp only at hSw); go_simp; (try with_reducible rfl))
          (repeat (first | simp only [Act.put] | simp only [List.setIfInBounds_toArray] | simp only [List.set_cons_zero] | simp only [List.set_cons_succ]))
          refine AnyL.takeD (i := 6) (d := some 60) (v := ?_) rfl rfl (by kernel_rfl) (by kernel_rfl) (fun _ _ _ h => h) (by kernel_rfl) (by kernel_rfl) (by kernel_rfl) (Or.inl ⟨by rfl, ?_⟩) hHeld ?_
          rotate_left 1
          focus (intro w hSw; (try dsimp only at hSw); go_simp; (try with_reducible rfl))
          (repeat (first | simp only [Act.put] | simp only [List.setIfInBounds_toArray] | simp only [List.set_cons_zero] | simp only [List.set_cons_succ]))
          have HBa : Hid (Below W4.heap.size W4 W4.drew) := Lib.hid (Below.drew (Below.refl _ _))
          refine AnyL.two (i := 7) (j := 11) (by kernel_rfl) rfl rfl (fun K hK => ?_) (fun K hK => ?_)
          · skip
            go_simp
            go_at_call 20
            refine ((D1.out _ HBa.out).out).mono ?_
            rintro e w7 ⟨bv, rfl, hbv, hb7⟩
            have HB7 := Lib.hid (HBa.out.trans (hb7.mono HBa.out.size))
            obtain ⟨gn, hgn⟩ : ∃ g, g = w7.heap.size := ⟨_, rfl⟩
            have HGN : Hid (W4.heap.size ≤ gn) := Lib.hid (by rw [hgn]; exact HB7.out.size)
            have hbv := IsBea.mono (M' := fun q => q ≠ gn ∧ q ≠ gx) hbv (fun q hql hq => ⟨by omega, by
              rcases hq with hq | hq
              · exact hq.2
              · have h9 : W4.heap.size ≤ q := hq
                omega⟩)
            obtain ⟨z0, z1, z2, z3, z4, z5, z6, z7, z8, z9, z10, z11, z12, z13, rfl⟩ := hbv.shape
            have HGE := Lib.hid hgn
            have HBV7 := Lib.hid hbv
            clear hbv hb7 hgn
            refine hK.out _ _ (fun _ => HB7.out) (fun hHeld => ?_)
            replace hHeld := hHeld (by kernel_rfl)
            clear hK K
            (repeat (first | simp only [Act.put] | simp only [List.setIfInBounds_toArray] | simp only [List.set_cons_zero] | simp only [List.set_cons_succ]))
            refine AnyL.takeD (i := 8) (d := some 53) (v := ?_) rfl rfl (by kernel_rfl) (by kernel_rfl) (fun _ _ _ h => h) (by kernel_rfl) (by kernel_rfl) (by kernel_rfl) (Or.inl ⟨by rfl, ?_⟩) hHeld ?_
            rotate_left 1
            focus (intro w hSw; (try dsimp only at hSw); go_simp; (try with_reducible rfl))
            (repeat (first | simp only [Act.put] | simp only [List.setIfInBounds_toArray] | simp only [List.set_cons_zero] | simp only [List.set_cons_succ]))
            refine AnyL.takeD (i := 9) (d := some 62) (v := ?_) rfl rfl (by kernel_rfl) (by kernel_rfl) (fun _ _ _ h => h) (by kernel_rfl) (by kernel_rfl) (by kernel_rfl) (Or.inl ⟨by rfl, ?_⟩) hHeld ?_
            rotate_left 1
            focus (intro w hSw; (try dsimp only at hSw); go_simp; (try with_reducible rfl))
            (repeat (first | simp only [Act.put] | simp only [List.setIfInBounds_toArray] | simp only [List.set_cons_zero] | simp only [List.set_cons_succ]))
            refine AnyL.lateD (i := 10) (d := some 63) (v := ?_) rfl rfl (by kernel_rfl) (by kernel_rfl) (fun _ _ _ h => h) (by kernel_rfl) (by kernel_rfl) (Or.inl ⟨by rfl, ?_⟩) (fun _ => hHeld) ?_
            rotate_left 1
            focus (intro w hSw; (try dsimp only at hSw); go_simp; (try with_reducible rfl))
            (repeat (first | simp only [Act.put] | simp only [List.setIfInBounds_toArray] | simp only [List.set_cons_zero] | simp only [List.set_cons_succ]))
            refine AnyL.one (i := 11) (by kernel_rfl) rfl (fun K hK => ?_)
            go_simp
            refine nameG (w := w7.alloc (.cells #[.slice none 0 0, .int .i64 0, .int .u64 0, .slice none 0 0, .slice none 0 0, .slice none 0 0] 32)) (p := fun W => K _ W) fun w8 hw8 => ?_
            have hb8w : Below w7.heap.size w7 w8 := by rw [hw8.out]; exact (Below.refl _ _).alloc (Nat.le_refl _) _
            have g8 : w8.heap[gn]? = some (.cells #[.slice none 0 0, .int .i64 0, .int .u64 0, .slice none 0 0, .slice none 0 0, .slice none 0 0] 32 (0, 0)) := by rw [hw8.out, HGE.out]; exact heap_alloc_new _ _
            rw [← HGE.out]
            have HB8 := Lib.hid (HB7.out.trans (hb8w.mono HB7.out.size))
            have HBV8 := Lib.hid (HBV7.out.below hb8w)
            have G8 := Lib.hid g8
            obtain ⟨⟨c0, c1, c2, c3, c4, c5⟩, ⟨f0, f1, f2, f3, f4, f5⟩⟩ := blk6 g8
            clear hb8w g8 hw8 HB7
            refine hK.out _ _ (fun _ => HB8.out) (fun hHeld => ?_)
            replace hHeld := hHeld (by kernel_rfl)
            clear hK K
            (repeat (first | simp only [Act.put] | simp only [List.setIfInBounds_toArray] | simp only [List.set_cons_zero] | simp only [List.set_cons_succ]))
            refine AnyL.one (i := 12) (by kernel_rfl) rfl (fun K hK => ?_)
            go_simp
            refine hK.out _ _ (fun h => nomatch (show true = false from h)) (fun _ => ?_)
            clear hK K
            (try dsimp only)
            refine AnyL.one (i := 13) (by kernel_rfl) rfl (fun K hK => ?_)
            go_simp
            refine hK.out _ _ (fun h => nomatch (show true = false from h)) (fun _ => ?_)
            clear hK K
            (try dsimp only)
            refine AnyL.done (by kernel_rfl) ?_
            clear c0 c1 c2 c3 c4 c5 f0 f1 f2 f3 f4 f5
            go_wp2_with fail
            go_meet
            case rel => exact ⟨gn, rfl, rfl, Lib.hid ⟨z0, z1, z2, z3, z4, z5, z6, z7, z8, z9, z10, z11, z12, z13, w6_at G8.out _ _ _ _ _ _, HBV8.out.keep fun p hp _ => World.cell?_of_block (w := w8) (w6_other hp.1 _ _ _ _ _ _)⟩, Lib.hid (w6_below HB8.out HGN.out _ _ _ _ _ _)⟩
          · skip
            go_simp
            refine nameG (w := W4.drew.alloc (.cells #[.slice none 0 0, .int .i64 0, .int .u64 0, .slice none 0 0, .slice none 0 0, .slice none 0 0] 32)) (p := fun W => K _ W) fun w7 hw7 => ?_
            obtain ⟨gn, hgn⟩ : ∃ g, g = W4.heap.size := ⟨_, rfl⟩
            have HGN : Hid (W4.heap.size ≤ gn) := Lib.hid (by rw [hgn]; exact Nat.le_refl _)
            have g7 : w7.heap[gn]? = some (.cells #[.slice none 0 0, .int .i64 0, .int .u64 0, .slice none 0 0, .slice none 0 0, .slice none 0 0] 32 (0, 0)) := by rw [hw7.out, hgn]; exact heap_alloc_new _ _
            have HB7 : Hid (Below W4.heap.size W4 w7) := Lib.hid (by rw [hw7.out]; exact HBa.out.alloc HBa.out.size _)
            have HS7 : Hid (w7.heap.size = W4.heap.size + 1 ∧ gn = W4.heap.size) := Lib.hid ⟨by rw [hw7.out]; simp, hgn⟩
            rw [← hgn]
            have G7 := Lib.hid g7
            clear hgn g7 hw7
            refine hK.out _ _ (fun _ => HB7.out) (fun hHeld => ?_)
            replace hHeld := hHeld (by kernel_rfl)
            clear hK K
            (repeat (first | simp only [Act.put] | simp only [List.setIfInBounds_toArray] | simp only [List.set_cons_zero] | simp only [List.set_cons_succ]))
            refine AnyL.one (i := 7) (by kernel_rfl) rfl (fun K hK => ?_)
            go_simp
            go_at_call 20
            refine ((D1.out _ HB7.out).out).mono ?_
            rintro e w8 ⟨bv, rfl, hbv, hb8⟩
            have HB8 := Lib.hid (HB7.out.trans (hb8.mono HB7.out.size))
            have hs7 := HS7.out
            have g8 := (hb8.block _ (lt_heap G7.out)).trans G7.out
            have hbv := IsBea.mono (M' := fun q => q ≠ gn ∧ q ≠ gx) hbv (fun q _ hq => by
              rcases hq with hq | hq
              · exact ⟨by omega, hq.2⟩
              · exact ⟨by omega, by omega⟩)
            obtain ⟨z0, z1, z2, z3, z4, z5, z6, z7, z8, z9, z10, z11, z12, z13, rfl⟩ := hbv.shape
            have HBV8 := Lib.hid hbv
            have G8 := Lib.hid g8
            clear hs7
            obtain ⟨⟨c0, c1, c2, c3, c4, c5⟩, ⟨f0, f1, f2, f3, f4, f5⟩⟩ := blk6 g8
            clear hbv hb8 g8 HB7 G7
            refine hK.out _ _ (fun _ => HB8.out) (fun hHeld => ?_)
            replace hHeld := hHeld (by kernel_rfl)
            clear hK K
            (repeat (first | simp only [Act.put] | simp only [List.setIfInBounds_toArray] | simp only [List.set_cons_zero] | simp only [List.set_cons_succ]))
            refine AnyL.takeD (i := 8) (d := some 53) (v := ?_) rfl rfl (by kernel_rfl) (by kernel_rfl) (fun _ _ _ h => h) (by kernel_rfl) (by kernel_rfl) (by kernel_rfl) (Or.inl ⟨by rfl, ?_⟩) hHeld ?_
            rotate_left 1
            focus (intro w hSw; (try dsimp only at hSw); go_simp; (try with_reducible rfl))
            (repeat (first | simp only [Act.put] | simp only [List.setIfInBounds_toArray] | simp only [List.set_cons_zero] | simp only [List.set_cons_succ]))
            refine AnyL.takeD (i := 9) (d := some 62) (v := ?_) rfl rfl (by kernel_rfl) (by kernel_rfl) (fun _ _ _ h => h) (by kernel_rfl) (by kernel_rfl) (by kernel_rfl) (Or.inl ⟨by rfl, ?_⟩) hHeld ?_
            rotate_left 1
            focus (intro w hSw; (try dsimp only at hSw); go_simp; (try with_reducible rfl))
            (repeat (first | simp only [Act.put] | simp only [List.setIfInBounds_toArray] | simp only [List.set_cons_zero] | simp only [List.set_cons_succ]))
            refine AnyL.lateD (i := 10) (d := some 63) (v := ?_) rfl rfl (by kernel_rfl) (by kernel_rfl) (fun _ _ _ h => h) (by kernel_rfl) (by kernel_rfl) (Or.inl ⟨by rfl, ?_⟩) (fun _ => hHeld) ?_
            rotate_left 1
            focus (intro w hSw; (try dsimp only at hSw); go_simp; (try with_reducible rfl))
            (repeat (first | simp only [Act.put] | simp only [List.setIfInBounds_toArray] | simp only [List.set_cons_zero] | simp only [List.set_cons_succ]))
            refine AnyL.one (i := 12) (by kernel_rfl) rfl (fun K hK => ?_)
            go_simp
            refine hK.out _ _ (fun h => nomatch (show true = false from h)) (fun _ => ?_)
            clear hK K
            (try dsimp only)
            refine AnyL.one (i := 13) (by kernel_rfl) rfl (fun K hK => ?_)
            go_simp
            refine hK.out _ _ (fun h => nomatch (show true = false from h)) (fun _ => ?_)
            clear hK K
            (try dsimp only)
            refine AnyL.done (by kernel_rfl) ?_
            clear c0 c1 c2 c3 c4 c5 f0 f1 f2 f3 f4 f5
            go_wp2_with fail
            go_meet
            case rel => exact ⟨gn, rfl, rfl, Lib.hid ⟨z0, z1, z2, z3, z4, z5, z6, z7, z8, z9, z10, z11, z12, z13, w6_at G8.out _ _ _ _ _ _, HBV8.out.keep fun p hp _ => World.cell?_of_block (w := w8) (w6_other hp.1 _ _ _ _ _ _)⟩, Lib.hid (w6_below HB8.out HGN.out _ _ _ _ _ _)⟩
        case rest =>
          obtain ⟨gn, rfl, rfl, HBG, HBd⟩ := hcut
          rw [HRZ.out]
          rw [HRZ.out] at HBG
          dsimp only at HBG ⊢
          clear D1 HC c0 c1 c2 c3 c4 c5 f0 f1 f2 f3 f4 f5
          have HBXc := Lib.hid (BoxN.below HBX4.out HBd.out)
          have HBc := Lib.hid (HB4.out.trans (HBd.out.mono HB4.out.size))
          obtain ⟨z0, z1, z2, z3, z4, z5, z6, z7, z8, z9, z10, z11, z12, z13, hkz, hbz⟩ := HBG.out
          obtain ⟨⟨a0, a1, a2, a3, a4, a5⟩, ⟨g0, g1, g2, g3, g4, g5⟩⟩ := blk6 hkz
          obtain ⟨x0, x1, x2, x3, x4, x5, x6, x7, x8, x9, x10, x11, x12, x13, hkx, hbx⟩ := HBXc.out
          obtain ⟨⟨c0, c1, c2, c3, c4, c5⟩, ⟨f0, f1, f2, f3, f4, f5⟩⟩ := blk6 hkx
          clear hbx
          go_upto_region 6 with fail
          refine nameC fun W9 hW9 => ?_
          have hw9 : W9 = w6 wc gx (.slice z0 z1 z2) (.int .i64 z3) (.int .u64 z4) (.slice z5 z6 z7) (.slice z8 z9 z10) (.slice z11 z12 z13) := hW9.out
          have HBX9 := Lib.hid (show BoxN W9 gx (stB cl t of ps (k + 1)) by rw [hw9]; exact BoxN.set (w := wc) HBXc.out (Below.refl _ _) (IsBea.mono hbz (fun q _ hq => Or.inl hq.2)))
          have HB9 : Hid (Below w.heap.size w W9) := Lib.hid (by rw [hw9]; exact w6_below HBc.out hgl _ _ _ _ _ _)
          clear hw9 hW9 hkz hkx hbz HBXc HBc c0 c1 c2 c3 c4 c5 f0 f1 f2 f3 f4 f5 a0 a1 a2 a3 a4 a5 g0 g1 g2 g3 g4 g5
          go_wp2_with fail
          go_roundw
          case rel => exact ⟨k + 1, by omega, by go_num, HBX9, HB9⟩
          case measure => simp [intOf]; omega
    · obtain rfl : k = n := by omega
      have hk1 : ¬ (k : Int) < (k : Int) := by omega
      obtain ⟨n, hn⟩ : ∃ n, n = k := ⟨_, rfl⟩
      subst hn
      obtain ⟨wo, hwo⟩ : ∃ wo, wo = wr := ⟨_, rfl⟩
      subst hwo
      have HDR : Hid (Dr cl t of ps n (stB cl t of ps n)) := Lib.hid (by rw [HN.out]; exact Dr.start HST.out)
      have hw19 : ((n : Int) - 1) = ((n : Int) - 1) := rfl
      go_wp2_with fail
      go_loopw [19] (fun s19 wr => ∃ (m : Nat) (z : Int) (b : BeaD), m ≤ n ∧ s19 = .int .i64 z ∧ z = (m : Int) - 1 ∧ Hid (Dr cl t of ps m b) ∧ Hid (BoxN wr gx b) ∧ Hid (Below w.heap.size w wr)) (fun s19 _ => (intOf s19 + 1).toNat)
      case atStart => exact ⟨n, _, _, Nat.le_refl _, rfl, rfl, HDR, HBX, HB⟩
      case round =>
        clear HBX HB HDR
        obtain ⟨m, z, b, hm, rfl, hz, HDR, HBX, HB⟩ := hrel
        cases m with
        | zero =>
          have hk1 : decide ((0 : Int) ≤ z) = false := decide_eq_false (by omega)
          clear hz
          have hnum := Dr.num HST.out HDR.out
          have HSM := Lib.hid (HDR.out.ov.small HST.out HW64.out)
          rw [← HWA.out] at hnum
          obtain ⟨x0, x1, x2, x3, x4, x5, x6, x7, x8, x9, x10, x11, x12, x13, hkx, hbe⟩ := HBX.out
          obtain ⟨⟨c0, c1, c2, c3, c4, c5⟩, ⟨f0, f1, f2, f3, f4, f5⟩⟩ := blk6 hkx
          have D1 := Lib.hid (number2_any wr _ _ b hbe HSM.out)
          rw [hnum] at D1
          clear hbe hnum
          go_wp2_with fail
          refine D1.out.mono ?_
          rintro e W4 ⟨rfl, hb4⟩
          have HB4 := Lib.hid (HB.out.trans (hb4.mono HB.out.size))
          clear hb4 c0 c1 c2 c3 c4 c5 f0 f1 f2 f3 f4 f5
          go_wp2_with fail
          go_ret2
          exact ⟨rfl, HB4.out⟩
        | succ i =>
          obtain rfl : z = (i : Int) := by omega
          have hi0 : (0 : Int) ≤ (i : Int) := by omega
          have hin : i < n := by omega
          have hin1 : (i : Int) < (n : Int) := by omega
          have his : (i : Int) < (sl : Int) := by omega
          have hic : i < cl.length := by rw [← HN.out]; exact hin
          obtain ⟨sg, so, rfl, hsc⟩ := IsBools.at_ HBS.out HB.out (show i < bs.length by rw [← HSL.out]; omega)
          obtain ⟨si, hsi⟩ : ∃ z, z = bs.getD i false := ⟨_, rfl⟩
          rw [← hsi] at hsc
          have HSM := Lib.hid (HDR.out.ov.small HST.out HW64.out)
          have HIC := Lib.hid hic
          clear hsi hz hic
          cases si with
          | false =>
            as_aux_lemma =>
              obtain ⟨b1, o1, vA, vc, rfl, hb1, hc1, hkv⟩ := HPO.out.at_ HB.out (show i < ps.length by rw [HPL.out]; exact hin)
              obtain ⟨ag, ao, rfl, hag, hac⟩ := HA.out.at_ HB.out HIC.out
              have hp1 : 0 < (polN ps i).length := pol_ne HST.out HIC.out
              obtain ⟨b3, o3, rfl, hb3, hc3⟩ := IsU64.at_ hkv (Below.refl _ _) hp1
              rw [show (polN ps i)[0] = p0 ps i by unfold p0; rw [List.getD_eq_getElem?_getD, List.getElem?_eq_getElem hp1]; rfl] at hc3
              have hgx : gx < wr.heap.size := HBX.out.lt
              obtain ⟨x0, x1, x2, x3, x4, x5, x6, x7, x8, x9, x10, x11, x12, x13, hkx, hbe⟩ := HBX.out
              obtain ⟨⟨c0, c1, c2, c3, c4, c5⟩, ⟨f0, f1, f2, f3, f4, f5⟩⟩ := blk6 hkx
              obtain ⟨yc, hyc⟩ : ∃ z, z = nthI cl i := ⟨_, rfl⟩
              obtain ⟨pn, hpn⟩ : ∃ z, z = p0 ps i := ⟨_, rfl⟩
              obtain ⟨ln, hln⟩ : ∃ z, z = (polN ps i).length := ⟨_, rfl⟩
              obtain ⟨rz, hrz⟩ : ∃ z, z = revealD b (rvO cl ps i) := ⟨_, rfl⟩
              have HRZ := Lib.hid (show rz = ({b with revs := b.revs ++ [rvO cl ps i]}, 0) ∧ Dr cl t of ps i {b with revs := b.revs ++ [rvO cl ps i]} by rw [hrz]; exact Dr.rev HST.out HDR.out HIC.out)
              have D1 := Lib.hid (show ∀ W, Below wr.heap.size wr W → Hid (Calls Try.prog 15 #[.agg #[.slice x0 x1 x2, .int .i64 x3, .int .u64 x4, .slice x5 x6 x7, .slice x8 x9 x10, .slice x11 x12 x13], .agg #[.int .i64 yc, .int .u64 (pn : Int)]] W (BeaE W (fun q => (q < wr.heap.size ∧ q ≠ gx) ∨ W.heap.size ≤ q) rz)) from fun W hW => Lib.hid (by
                have y := reveal_any W (fun q => q < wr.heap.size ∧ q ≠ gx) _ b (rvO cl ps i) (IsBea.below (IsBea.mono hbe (fun q hq h => ⟨hq, h⟩)) hW) HSM.out (HW64.out i HIC.out) (HP.out.p0lt HIC.out)
                rw [hyc, hpn, hrz]
                exact y))
              rw [← hyc] at hac
              rw [← hpn] at hc3
              rw [← hln] at hc1 hp1
              have HC := Lib.hid (show ∀ W', Below wr.heap.size wr W' → (W'.cell? ⟨gx, 0, none⟩ = some (.slice x0 x1 x2) ∧ W'.cell? ⟨gx, 1, none⟩ = some (.int .i64 x3) ∧ W'.cell? ⟨gx, 2, none⟩ = some (.int .u64 x4) ∧ W'.cell? ⟨gx, 3, none⟩ = some (.slice x5 x6 x7) ∧ W'.cell? ⟨gx, 4, none⟩ = some (.slice x8 x9 x10) ∧ W'.cell? ⟨gx, 5, none⟩ = some (.slice x11 x12 x13) ∧ W'.cell? ⟨ag, ao + i, none⟩ = some (.int .i64 yc) ∧ W'.cell? ⟨b1, o1 + i, none⟩ = some (.slice (some ⟨b3, o3, none⟩) ln vc) ∧ W'.cell? ⟨b3, o3, none⟩ = some (.int .u64 (pn : Int))) from fun W' h => by
                have e0 := (h.block _ (lt_heap hkx)).trans hkx
                exact ⟨cell_of e0 rfl, cell_of e0 rfl, cell_of e0 rfl, cell_of e0 rfl, cell_of e0 rfl, cell_of e0 rfl, (h.cell (p := ⟨ag, ao + i, none⟩) (lt_of_cell hac)).trans hac, (h.cell (p := ⟨b1, o1 + i, none⟩) (lt_of_cell hc1)).trans hc1, (h.cell (p := ⟨b3, o3 + 0, none⟩) (lt_of_cell hc3)).trans hc3⟩)
              have hl0 : (0 : Int) < (ln : Int) := by omega
              clear hyc hpn hln hkx hbe hrz hb1 hc1 hkv hb3 hc3 hag hac HDR HSM
              go_upto_region 16 with fail
              clear hsc
              go_cut [20, 21] (fun s20 s21 W => ∃ gn, s20 = .pointer (some ⟨gn, 0, none⟩) ∧ s21 = .int .i64 rz.2 ∧ Hid (BoxG W gn gx rz.1) ∧ Hid (Below wr.heap.size wr W))
              case first =>
                refine anyL_begin (z := 17) (S := fun W9 => Below wr.heap.size wr W9) (by kernel_rfl) (Below.drew (Below.refl _ _)) (fun hHeld => ?_)
                refine AnyL.takeD (i := 0) (d := some 84) (v := ?_) rfl rfl (by kernel_rfl) (by kernel_rfl) (fun _ _ _ h => h) (by kernel_rfl) (by kernel_rfl) (by kernel_rfl) (Or.inl ⟨by rfl, ?_⟩) hHeld ?_
                rotate_left 1
                focus (intro w hSw; (try dsimp only at hSw); obtain ⟨c0, c1, c2, c3, c4, c5, ck, cv, cn⟩ := HC.out w hSw; go_simp; (try with_reducible rfl))
                (repeat (first | simp only [Act.put] | simp only [List.setIfInBounds_toArray] | simp only [List.set_cons_zero] | simp only [List.set_cons_succ]))
                refine AnyL.takeD (i := 1) (d := some 85) (v := ?_) rfl rfl (by kernel_rfl) (by kernel_rfl) (fun _ _ _ h => h) (by kernel_rfl) (by kernel_rfl) (by kernel_rfl) (Or.inl ⟨by rfl, ?_⟩) hHeld ?_
                rotate_left 1
                focus (intro w hSw; (try dsimp only at hSw); go_simp; (try with_reducible rfl))
                (repeat (first | simp only [Act.put] | simp only [List.setIfInBounds_toArray] | simp only [List.set_cons_zero] | simp only [List.set_cons_succ]))
                refine AnyL.takeD (i := 2) (d := some 86) (v := ?_) rfl rfl (by kernel_rfl) (by kernel_rfl) (fun _ _ _ h => h) (by kernel_rfl) (by kernel_rfl) (by kernel_rfl) (Or.inl ⟨by rfl, ?_⟩) hHeld ?_
                rotate_left 1
                focus (intro w hSw; (try dsimp only at hSw); go_simp; (try with_reducible rfl))
                (repeat (first | simp only [Act.put] | simp only [List.setIfInBounds_toArray] | simp only [List.set_cons_zero] | simp only [List.set_cons_succ]))
                refine AnyL.takeD (i := 3) (d := some 87) (v := ?_) rfl rfl (by kernel_rfl) (by kernel_rfl) (fun _ _ _ h => h) (by kernel_rfl) (by kernel_rfl) (by kernel_rfl) (Or.inl ⟨by rfl, ?_⟩) hHeld ?_
                rotate_left 1
                focus (intro w hSw; (try dsimp only at hSw); go_simp; (try with_reducible rfl))
                (repeat (first | simp only [Act.put] | simp only [List.setIfInBounds_toArray] | simp only [List.set_cons_zero] | simp only [List.set_cons_succ]))
                refine AnyL.takeD (i := 4) (d := some 88) (v := ?_) rfl rfl (by kernel_rfl) (by kernel_rfl) (fun _ _ _ h => h) (by kernel_rfl) (by kernel_rfl) (by kernel_rfl) (Or.inl ⟨by rfl, ?_⟩) hHeld ?_
                rotate_left 1
                focus (intro w hSw; (try dsimp only at hSw); obtain ⟨c0, c1, c2, c3, c4, c5, ck, cv, cn⟩ := HC.out w hSw; go_simp; (try with_reducible rfl))
                (repeat (first | simp only [Act.put] | simp only [List.setIfInBounds_toArray] | simp only [List.set_cons_zero] | simp only [List.set_cons_succ]))
                refine AnyL.takeD (i := 5) (d := some 89) (v := ?_) rfl rfl (by kernel_rfl) (by kernel_rfl) (fun _ _ _ h => h) (by kernel_rfl) (by kernel_rfl) (by kernel_rfl) (Or.inl ⟨by rfl, ?_⟩) hHeld ?_
                rotate_left 1
                focus (intro w hSw; (try dsimp only at hSw); go_simp; (try with_reducible rfl))
                (repeat (first | simp only [Act.put] | simp only [List.setIfInBounds_toArray] | simp only [List.set_cons_zero] | simp only [List.set_cons_succ]))
                refine AnyL.takeD (i := 6) (d := some 90) (v := ?_) rfl rfl (by kernel_rfl) (by kernel_rfl) (fun _ _ _ h => h) (by kernel_rfl) (by kernel_rfl) (by kernel_rfl) (Or.inl ⟨by rfl, ?_⟩) hHeld ?_
                rotate_left 1
                focus (intro w hSw; (try dsimp only at hSw); go_simp; (try with_reducible rfl))
                (repeat (first | simp only [Act.put] | simp only [List.setIfInBounds_toArray] | simp only [List.set_cons_zero] | simp only [List.set_cons_succ]))
                refine AnyL.takeD (i := 7) (d := some 91) (v := ?_) rfl rfl (by kernel_rfl) (by kernel_rfl) (fun _ _ _ h => h) (by kernel_rfl) (by kernel_rfl) (by kernel_rfl) (Or.inl ⟨by rfl, ?_⟩) hHeld ?_
                rotate_left 1
                focus (intro w hSw; (try dsimp only at hSw); go_simp; (try with_reducible rfl))
                (repeat (first | simp only [Act.put] | simp only [List.setIfInBounds_toArray] | simp only [List.set_cons_zero] | simp only [List.set_cons_succ]))
                refine AnyL.takeD (i := 8) (d := some 92) (v := ?_) rfl rfl (by kernel_rfl) (by kernel_rfl) (fun _ _ _ h => h) (by kernel_rfl) (by kernel_rfl) (by kernel_rfl) (Or.inl ⟨by rfl, ?_⟩) hHeld ?_
                rotate_left 1
                focus (intro w hSw; (try dsimp only at hSw); obtain ⟨c0, c1, c2, c3, c4, c5, ck, cv, cn⟩ := HC.out w hSw; go_simp; (try with_reducible rfl))
                (repeat (first | simp only [Act.put] | simp only [List.setIfInBounds_toArray] | simp only [List.set_cons_zero] | simp only [List.set_cons_succ]))
                refine AnyL.takeD (i := 9) (d := some 93) (v := ?_) rfl rfl (by kernel_rfl) (by kernel_rfl) (fun _ _ _ h => h) (by kernel_rfl) (by kernel_rfl) (by kernel_rfl) (Or.inl ⟨by rfl, ?_⟩) hHeld ?_
                rotate_left 1
                focus (intro w hSw; (try dsimp only at hSw); go_simp; (try with_reducible rfl))
                (repeat (first | simp only [Act.put] | simp only [List.setIfInBounds_toArray] | simp only [List.set_cons_zero] | simp only [List.set_cons_succ]))
                refine AnyL.takeD (i := 10) (d := some 94) (v := ?_) rfl rfl (by kernel_rfl) (by kernel_rfl) (fun _ _ _ h => h) (by kernel_rfl) (by kernel_rfl) (by kernel_rfl) (Or.inl ⟨by rfl, ?_⟩) hHeld ?_
                rotate_left 1
                focus (intro w hSw; (try dsimp only at hSw); obtain ⟨c0, c1, c2, c3, c4, c5, ck, cv, cn⟩ := HC.out w hSw; go_simp; (try with_reducible rfl))
                (repeat (first | simp only [Act.put] | simp only [List.setIfInBounds_toArray] | simp only [List.set_cons_zero] | simp only [List.set_cons_succ]))
                refine AnyL.takeD (i := 11) (d := some 95) (v := ?_) rfl rfl (by kernel_rfl) (by kernel_rfl) (fun _ _ _ h => h) (by kernel_rfl) (by kernel_rfl) (by kernel_rfl) (Or.inl ⟨by rfl, ?_⟩) hHeld ?_
                rotate_left 1
                focus (intro w hSw; (try dsimp only at hSw); go_simp; (try with_reducible rfl))
                (repeat (first | simp only [Act.put] | simp only [List.setIfInBounds_toArray] | simp only [List.set_cons_zero] | simp only [List.set_cons_succ]))
                have HBa : Hid (Below wr.heap.size wr wr.drew) := Lib.hid (Below.drew (Below.refl _ _))
                refine AnyL.two (i := 12) (j := 16) (by kernel_rfl) rfl rfl (fun K hK => ?_) (fun K hK => ?_)
                · skip
                  go_simp
                  go_at_call 15
                  refine ((D1.out _ HBa.out).out).mono ?_
                  rintro e w7 ⟨bv, rfl, hbv, hb7⟩
                  have HB7 := Lib.hid (HBa.out.trans (hb7.mono HBa.out.size))
                  obtain ⟨gn, hgn⟩ : ∃ g, g = w7.heap.size := ⟨_, rfl⟩
                  have HGN : Hid (wr.heap.size ≤ gn) := Lib.hid (by rw [hgn]; exact HB7.out.size)
                  have hbv := IsBea.mono (M' := fun q => q ≠ gn ∧ q ≠ gx) hbv (fun q hql hq => ⟨by omega, by
                    rcases hq with hq | hq
                    · exact hq.2
                    · have h9 : wr.heap.size ≤ q := hq
                      omega⟩)
                  obtain ⟨z0, z1, z2, z3, z4, z5, z6, z7, z8, z9, z10, z11, z12, z13, rfl⟩ := hbv.shape
                  have HGE := Lib.hid hgn
                  have HBV7 := Lib.hid hbv
                  clear hbv hb7 hgn
                  refine hK.out _ _ (fun _ => HB7.out) (fun hHeld => ?_)
                  replace hHeld := hHeld (by kernel_rfl)
                  clear hK K
                  (repeat (first | simp only [Act.put] | simp only [List.setIfInBounds_toArray] | simp only [List.set_cons_zero] | simp only [List.set_cons_succ]))
                  refine AnyL.takeD (i := 13) (d := some 83) (v := ?_) rfl rfl (by kernel_rfl) (by kernel_rfl) (fun _ _ _ h => h) (by kernel_rfl) (by kernel_rfl) (by kernel_rfl) (Or.inl ⟨by rfl, ?_⟩) hHeld ?_
                  rotate_left 1
                  focus (intro w hSw; (try dsimp only at hSw); go_simp; (try with_reducible rfl))
                  (repeat (first | simp only [Act.put] | simp only [List.setIfInBounds_toArray] | simp only [List.set_cons_zero] | simp only [List.set_cons_succ]))
                  refine AnyL.takeD (i := 14) (d := some 97) (v := ?_) rfl rfl (by kernel_rfl) (by kernel_rfl) (fun _ _ _ h => h) (by kernel_rfl) (by kernel_rfl) (by kernel_rfl) (Or.inl ⟨by rfl, ?_⟩) hHeld ?_
                  rotate_left 1
                  focus (intro w hSw; (try dsimp only at hSw); go_simp; (try with_reducible rfl))
                  (repeat (first | simp only [Act.put] | simp only [List.setIfInBounds_toArray] | simp only [List.set_cons_zero] | simp only [List.set_cons_succ]))
                  refine AnyL.lateD (i := 15) (d := some 98) (v := ?_) rfl rfl (by kernel_rfl) (by kernel_rfl) (fun _ _ _ h => h) (by kernel_rfl) (by kernel_rfl) (Or.inl ⟨by rfl, ?_⟩) (fun _ => hHeld) ?_
                  rotate_left 1
                  focus (intro w hSw; (try dsimp only at hSw); go_simp; (try with_reducible rfl))
                  (repeat (first | simp only [Act.put] | simp only [List.setIfInBounds_toArray] | simp only [List.set_cons_zero] | simp only [List.set_cons_succ]))
                  refine AnyL.one (i := 16) (by kernel_rfl) rfl (fun K hK => ?_)
                  go_simp
                  refine nameG (w := w7.alloc (.cells #[.slice none 0 0, .int .i64 0, .int .u64 0, .slice none 0 0, .slice none 0 0, .slice none 0 0] 32)) (p := fun W => K _ W) fun w8 hw8 => ?_
                  have hb8w : Below w7.heap.size w7 w8 := by rw [hw8.out]; exact (Below.refl _ _).alloc (Nat.le_refl _) _
                  have g8 : w8.heap[gn]? = some (.cells #[.slice none 0 0, .int .i64 0, .int .u64 0, .slice none 0 0, .slice none 0 0, .slice none 0 0] 32 (0, 0)) := by rw [hw8.out, HGE.out]; exact heap_alloc_new _ _
                  rw [← HGE.out]
                  have HB8 := Lib.hid (HB7.out.trans (hb8w.mono HB7.out.size))
                  have HBV8 := Lib.hid (HBV7.out.below hb8w)
                  have G8 := Lib.hid g8
                  obtain ⟨⟨c0, c1, c2, c3, c4, c5⟩, ⟨f0, f1, f2, f3, f4, f5⟩⟩ := blk6 g8
                  clear hb8w g8 hw8 HB7
                  refine hK.out _ _ (fun _ => HB8.out) (fun hHeld => ?_)
                  replace hHeld := hHeld (by kernel_rfl)
                  clear hK K
                  (repeat (first | simp only [Act.put] | simp only [List.setIfInBounds_toArray] | simp only [List.set_cons_zero] | simp only [List.set_cons_succ]))
                  refine AnyL.one (i := 17) (by kernel_rfl) rfl (fun K hK => ?_)
                  go_simp
                  refine hK.out _ _ (fun h => nomatch (show true = false from h)) (fun _ => ?_)
                  clear hK K
                  (try dsimp only)
                  refine AnyL.one (i := 18) (by kernel_rfl) rfl (fun K hK => ?_)
                  go_simp
                  refine hK.out _ _ (fun h => nomatch (show true = false from h)) (fun _ => ?_)
                  clear hK K
                  (try dsimp only)
                  refine AnyL.done (by kernel_rfl) ?_
                  clear c0 c1 c2 c3 c4 c5 f0 f1 f2 f3 f4 f5
                  go_wp2_with fail
                  go_meet
                  case rel => exact ⟨gn, rfl, rfl, Lib.hid ⟨z0, z1, z2, z3, z4, z5, z6, z7, z8, z9, z10, z11, z12, z13, w6_at G8.out _ _ _ _ _ _, HBV8.out.keep fun p hp _ => World.cell?_of_block (w := w8) (w6_other hp.1 _ _ _ _ _ _)⟩, Lib.hid (w6_below HB8.out HGN.out _ _ _ _ _ _)⟩
                · skip
                  go_simp
                  refine nameG (w := wr.drew.alloc (.cells #[.slice none 0 0, .int .i64 0, .int .u64 0, .slice none 0 0, .slice none 0 0, .slice none 0 0] 32)) (p := fun W => K _ W) fun w7 hw7 => ?_
                  obtain ⟨gn, hgn⟩ : ∃ g, g = wr.heap.size := ⟨_, rfl⟩
                  have HGN : Hid (wr.heap.size ≤ gn) := Lib.hid (by rw [hgn]; exact Nat.le_refl _)
                  have g7 : w7.heap[gn]? = some (.cells #[.slice none 0 0, .int .i64 0, .int .u64 0, .slice none 0 0, .slice none 0 0, .slice none 0 0] 32 (0, 0)) := by rw [hw7.out, hgn]; exact heap_alloc_new _ _
                  have HB7 : Hid (Below wr.heap.size wr w7) := Lib.hid (by rw [hw7.out]; exact HBa.out.alloc HBa.out.size _)
                  have HS7 : Hid (w7.heap.size = wr.heap.size + 1 ∧ gn = wr.heap.size) := Lib.hid ⟨by rw [hw7.out]; simp, hgn⟩
                  rw [← hgn]
                  have G7 := Lib.hid g7
                  clear hgn g7 hw7
                  refine hK.out _ _ (fun _ => HB7.out) (fun hHeld => ?_)
                  replace hHeld := hHeld (by kernel_rfl)
                  clear hK K
                  (repeat (first | simp only [Act.put] | simp only [List.setIfInBounds_toArray] | simp only [List.set_cons_zero] | simp only [List.set_cons_succ]))
                  refine AnyL.one (i := 12) (by kernel_rfl) rfl (fun K hK => ?_)
                  go_simp
                  go_at_call 15
                  refine ((D1.out _ HB7.out).out).mono ?_
                  rintro e w8 ⟨bv, rfl, hbv, hb8⟩
                  have HB8 := Lib.hid (HB7.out.trans (hb8.mono HB7.out.size))
                  have hs7 := HS7.out
                  have g8 := (hb8.block _ (lt_heap G7.out)).trans G7.out
                  have hbv := IsBea.mono (M' := fun q => q ≠ gn ∧ q ≠ gx) hbv (fun q _ hq => by
                    rcases hq with hq | hq
                    · exact ⟨by omega, hq.2⟩
                    · exact ⟨by omega, by omega⟩)
                  obtain ⟨z0, z1, z2, z3, z4, z5, z6, z7, z8, z9, z10, z11, z12, z13, rfl⟩ := hbv.shape
                  have HBV8 := Lib.hid hbv
                  have G8 := Lib.hid g8
                  clear hs7
                  obtain ⟨⟨c0, c1, c2, c3, c4, c5⟩, ⟨f0, f1, f2, f3, f4, f5⟩⟩ := blk6 g8
                  clear hbv hb8 g8 HB7 G7
                  refine hK.out _ _ (fun _ => HB8.out) (fun hHeld => ?_)
                  replace hHeld := hHeld (by kernel_rfl)
                  clear hK K
                  (repeat (first | simp only [Act.put] | simp only [List.setIfInBounds_toArray] | simp only [List.set_cons_zero] | simp only [List.set_cons_succ]))
                  refine AnyL.takeD (i := 13) (d := some 83) (v := ?_) rfl rfl (by kernel_rfl) (by kernel_rfl) (fun _ _ _ h => h) (by kernel_rfl) (by kernel_rfl) (by kernel_rfl) (Or.inl ⟨by rfl, ?_⟩) hHeld ?_
                  rotate_left 1
                  focus (intro w hSw; (try dsimp only at hSw); go_simp; (try with_reducible rfl))
                  (repeat (first | simp only [Act.put] | simp only [List.setIfInBounds_toArray] | simp only [List.set_cons_zero] | simp only [List.set_cons_succ]))
                  refine AnyL.takeD (i := 14) (d := some 97) (v := ?_) rfl rfl (by kernel_rfl) (by kernel_rfl) (fun _ _ _ h => h) (by kernel_rfl) (by kernel_rfl) (by kernel_rfl) (Or.inl ⟨by rfl, ?_⟩) hHeld ?_
                  rotate_left 1
                  focus (intro w hSw; (try dsimp only at hSw); go_simp; (try with_reducible rfl))
                  (repeat (first | simp only [Act.put] | simp only [List.setIfInBounds_toArray] | simp only [List.set_cons_zero] | simp only [List.set_cons_succ]))
                  refine AnyL.lateD (i := 15) (d := some 98) (v := ?_) rfl rfl (by kernel_rfl) (by kernel_rfl) (fun _ _ _ h => h) (by kernel_rfl) (by kernel_rfl) (Or.inl ⟨by rfl, ?_⟩) (fun _ => hHeld) ?_
                  rotate_left 1
                  focus (intro w hSw; (try dsimp only at hSw); go_simp; (try with_reducible rfl))
                  (repeat (first | simp only [Act.put] | simp only [List.setIfInBounds_toArray] | simp only [List.set_cons_zero] | simp only [List.set_cons_succ]))
                  refine AnyL.one (i := 17) (by kernel_rfl) rfl (fun K hK => ?_)
                  go_simp
                  refine hK.out _ _ (fun h => nomatch (show true = false from h)) (fun _ => ?_)
                  clear hK K
                  (try dsimp only)
                  refine AnyL.one (i := 18) (by kernel_rfl) rfl (fun K hK => ?_)
                  go_simp
                  refine hK.out _ _ (fun h => nomatch (show true = false from h)) (fun _ => ?_)
                  clear hK K
                  (try dsimp only)
                  refine AnyL.done (by kernel_rfl) ?_
                  clear c0 c1 c2 c3 c4 c5 f0 f1 f2 f3 f4 f5
                  go_wp2_with fail
                  go_meet
                  case rel => exact ⟨gn, rfl, rfl, Lib.hid ⟨z0, z1, z2, z3, z4, z5, z6, z7, z8, z9, z10, z11, z12, z13, w6_at G8.out _ _ _ _ _ _, HBV8.out.keep fun p hp _ => World.cell?_of_block (w := w8) (w6_other hp.1 _ _ _ _ _ _)⟩, Lib.hid (w6_below HB8.out HGN.out _ _ _ _ _ _)⟩
              case rest =>
                obtain ⟨gn, rfl, rfl, HBG, HBd⟩ := hcut
                rw [HRZ.out.1]
                rw [HRZ.out.1] at HBG
                dsimp only at HBG ⊢
                have HD2 := Lib.hid HRZ.out.2
                obtain ⟨b2, hb2⟩ : ∃ z, z = ({b with revs := b.revs ++ [rvO cl ps i]} : BeaD) := ⟨_, rfl⟩
                rw [← hb2] at HBG HD2
                clear D1 HC c0 c1 c2 c3 c4 c5 f0 f1 f2 f3 f4 f5 HRZ hb2
                have HBXc := Lib.hid (BoxN.below HBX.out HBd.out)
                have HBc := Lib.hid (HB.out.trans (HBd.out.mono HB.out.size))
                obtain ⟨z0, z1, z2, z3, z4, z5, z6, z7, z8, z9, z10, z11, z12, z13, hkz, hbz⟩ := HBG.out
                obtain ⟨⟨a0, a1, a2, a3, a4, a5⟩, ⟨g0, g1, g2, g3, g4, g5⟩⟩ := blk6 hkz
                obtain ⟨x0, x1, x2, x3, x4, x5, x6, x7, x8, x9, x10, x11, x12, x13, hkx, hbx⟩ := HBXc.out
                obtain ⟨⟨c0, c1, c2, c3, c4, c5⟩, ⟨f0, f1, f2, f3, f4, f5⟩⟩ := blk6 hkx
                clear hbx
                go_upto_region 14 with fail
                refine nameC fun W9 hW9 => ?_
                have hw9 : W9 = w6 wc gx (.slice z0 z1 z2) (.int .i64 z3) (.int .u64 z4) (.slice z5 z6 z7) (.slice z8 z9 z10) (.slice z11 z12 z13) := hW9.out
                have HBX9 := Lib.hid (show BoxN W9 gx b2 by rw [hw9]; exact BoxN.set (w := wc) HBXc.out (Below.refl _ _) (IsBea.mono hbz (fun q _ hq => Or.inl hq.2)))
                have HB9 : Hid (Below w.heap.size w W9) := Lib.hid (by rw [hw9]; exact w6_below HBc.out hgl _ _ _ _ _ _)
                clear hw9 hW9 hkz hkx hbz HBXc HBc c0 c1 c2 c3 c4 c5 f0 f1 f2 f3 f4 f5 a0 a1 a2 a3 a4 a5 g0 g1 g2 g3 g4 g5
                go_wp2_with fail
                go_roundw
                case rel => exact ⟨i, _, b2, by omega, rfl, by go_num, HD2, HBX9, HB9⟩
                case measure => simp [intOf]
          | true =>
            as_aux_lemma =>
              obtain ⟨b1, o1, vA, vc, rfl, hb1, hc1, hkv⟩ := HPO.out.at_ HB.out (show i < ps.length by rw [HPL.out]; exact hin)
              have D1 := Lib.hid (split_any wr _ _ (polN ps i) hkv (n : Int))
              have hse : splitD (polN ps i) (n : Int) = ((List.range n).map (fun j => (j + 1, hor (polN ps i) (j + 1))), 0) := by
                have h9 := splitD_eq HST.out HIC.out
                rw [← HN.out] at h9
                exact h9
              rw [hse] at D1
              obtain ⟨L, hL⟩ : ∃ L, L = (List.range n).map (fun j => (j + 1, hor (polN ps i) (j + 1))) := ⟨_, rfl⟩
              have HL := Lib.hid hL
              rw [← hL] at D1
              have hLn : L.length = n := by rw [hL]; simp
              have HLN := Lib.hid hLn
              obtain ⟨pl, hpl⟩ : ∃ z, z = (polN ps i).length := ⟨_, rfl⟩
              rw [← hpl] at hc1 D1
              clear hpl hkv hb1 hL hse
              go_wp2_with fail
              refine D1.out.mono ?_
              rintro e W4 ⟨shv, rfl, hshv, hb4⟩
              dsimp only at hshv ⊢
              obtain ⟨lA, lc, rfl, -⟩ := id hshv
              have HSH := Lib.hid hshv
              have HB4 := Lib.hid (HB.out.trans (hb4.mono HB.out.size))
              have HBX4 := Lib.hid (HBX.out.below hb4)
              have HDQ := Lib.hid (Dr.open_ HDR.out HIC.out)
              rw [hLn] at HSH ⊢
              have hne0 : ((n : Int) != (n : Int)) = false := by simp
              have hgxw : gx < wr.heap.size := HBX.out.lt
              clear hb4 hshv D1 hc1 HBX HB hsc hLn HDR HSM
              go_wp2_with fail
              obtain ⟨wp, hwp⟩ : ∃ wo, wo = wr := ⟨_, rfl⟩
              subst hwp
              clear hne0
              go_loopw [24, 25] (fun s24 s25 wr => ∃ (j q : Nat) (b : BeaD), j ≤ n ∧ s25 = .int .i64 (j : Int) ∧ s24 = .int .i64 (q : Int) ∧ Hid (Dq cl t of ps i j q b) ∧ Hid (BoxN wr gx b) ∧ Hid (Below w.heap.size w wr) ∧ Hid (IsShs wr (fun q => q ≠ gx) (.slice lA n lc) L)) (fun _ s25 _ => n - (intOf s25).toNat)
              case atStart => exact ⟨0, 0, b, Nat.zero_le _, rfl, rfl, HDQ, HBX4, HB4, Lib.hid (IsSl.mono HSH.out (fun q _ hq => by have h9 : wp.heap.size ≤ q := hq; show q ≠ gx; omega) (by omega))⟩
              case round =>
                clear HDQ HBX4 HB4 HSH
                obtain ⟨j, q, b, hj, rfl, rfl, HDQ, HBX, HB, HSH⟩ := hrel
                have hq9 : q ≤ n := by
                  have := HDQ.out.cn
                  split at this <;> omega
                by_cases hjn : j < n
                case neg =>
                  obtain rfl : j = n := by omega
                  have t1 : decide ((j : Int) < (j : Int)) = false := decide_eq_false (by omega)
                  have HDR := Lib.hid (Dq.done HDQ.out HIC.out (Dq.all HST.out (by rw [← HN.out]; exact HDQ.out) HIC.out))
                  clear HDQ hj hjn
                  go_wp2_with fail
                  go_roundw
                  case rel => exact ⟨i, _, b, by omega, rfl, by go_num, HDR, HBX, HB⟩
                  case measure => simp [intOf]
                have hj1 : (j : Int) < (n : Int) := by omega
                have hj0 : (0 : Int) ≤ (j : Int) := by omega
                have t1 : decide ((j : Int) < (n : Int)) = true := decide_eq_true hj1
                by_cases hqt : (q : Int) < t
                case neg =>
                  have t2 : decide ((q : Int) < t) = false := decide_eq_false hqt
                  have HDR := Lib.hid (Dq.done HDQ.out HIC.out (by omega))
                  clear HDQ hqt
                  go_wp2_with fail
                  go_roundw
                  case rel => exact ⟨i, _, b, by omega, rfl, by go_num, HDR, HBX, HB⟩
                  case measure => simp [intOf]
                have t2 : decide ((q : Int) < t) = true := decide_eq_true hqt
                clear hqt
                by_cases hji : j = i
                case pos =>
                  subst hji
                  have t3 : ((j : Int) == (j : Int)) = true := by simp
                  have HD2 := Lib.hid (Dq.skip HDQ.out)
                  clear HDQ
                  go_wp2_with fail
                  go_roundw
                  case rel => exact ⟨j + 1, q, b, by omega, by go_num, rfl, HD2, HBX, HB, HSH⟩
                  case measure => simp [intOf]; omega
                have t3 : ((j : Int) == (i : Int)) = false := by rw [beq_eq_false_iff_ne]; omega
                have hjc : j < cl.length := by rw [← HN.out]; exact hjn
                have HJC := Lib.hid hjc
                obtain ⟨ag, ao, hag1, hag, hac⟩ := HA.out.at_ HB.out HIC.out
                subst hag1
                obtain ⟨ag2, ao2, hag2, -, had⟩ := HA.out.at_ HB.out hjc
                cases hag2
                obtain ⟨lg, lo, rfl, hlg, hl1, hl2⟩ := IsShs.at_ (show IsShs wr (fun q => q ≠ gx) (.slice lA L.length lc) L by rw [HLN.out]; exact HSH.out) (Below.refl _ _) (show j < L.length by rw [HLN.out]; exact hjn)
                have hLj : L[j]'(by rw [HLN.out]; exact hjn) = (j + 1, hor (polN ps i) (j + 1)) := by
                  have h9 := HL.out
                  subst h9
                  simp
                rw [hLj] at hl1 hl2
                dsimp only at hl1 hl2
                have hgx : gx < wr.heap.size := HBX.out.lt
                have HSM := Lib.hid (HDQ.out.ov.small HST.out HW64.out)
                obtain ⟨x0, x1, x2, x3, x4, x5, x6, x7, x8, x9, x10, x11, x12, x13, hkx, hbe⟩ := HBX.out
                obtain ⟨⟨c0, c1, c2, c3, c4, c5⟩, ⟨f0, f1, f2, f3, f4, f5⟩⟩ := blk6 hkx
                obtain ⟨yc, hyc⟩ : ∃ z, z = nthI cl i := ⟨_, rfl⟩
                obtain ⟨yf, hyf⟩ : ∃ z, z = nthI cl j := ⟨_, rfl⟩
                obtain ⟨y1', hy1⟩ : ∃ z, z = j + 1 := ⟨_, rfl⟩
                obtain ⟨y2', hy2⟩ : ∃ z, z = hor (polN ps i) (j + 1) := ⟨_, rfl⟩
                obtain ⟨rz, hrz⟩ : ∃ z, z = openD b (opO cl ps i j) := ⟨_, rfl⟩
                have HRZ := Lib.hid (show rz = ({b with opns := b.opns ++ [opO cl ps i j]}, 0) ∧ Dq cl t of ps i (j + 1) (q + 1) {b with opns := b.opns ++ [opO cl ps i j]} by rw [hrz]; exact Dq.opn HST.out HDQ.out HIC.out hjc (fun e => hji e.symm))
                have D1 := Lib.hid (show ∀ W, Below wr.heap.size wr W → Hid (Calls Try.prog 17 #[.agg #[.slice x0 x1 x2, .int .i64 x3, .int .u64 x4, .slice x5 x6 x7, .slice x8 x9 x10, .slice x11 x12 x13], .agg #[.int .i64 yc, .int .i64 yf, .int .u64 (y1' : Int), .int .u64 (y2' : Int)]] W (BeaE W (fun q => (q < wr.heap.size ∧ q ≠ gx) ∨ W.heap.size ≤ q) rz)) from fun W hW => Lib.hid (by
                  have y := openS_any W (fun q => q < wr.heap.size ∧ q ≠ gx) _ b (opO cl ps i j) (IsBea.below (IsBea.mono hbe (fun q hq h => ⟨hq, h⟩)) hW) HSM.out (HW64.out i HIC.out) (HW64.out j HJC.out)
                  rw [hyc, hyf, hy1, hy2, hrz]
                  exact y))
                rw [← hyc] at hac
                rw [← hyf] at had
                rw [← hy1] at hl1
                rw [← hy2] at hl2
                have HC := Lib.hid (show ∀ W', Below wr.heap.size wr W' → (W'.cell? ⟨gx, 0, none⟩ = some (.slice x0 x1 x2) ∧ W'.cell? ⟨gx, 1, none⟩ = some (.int .i64 x3) ∧ W'.cell? ⟨gx, 2, none⟩ = some (.int .u64 x4) ∧ W'.cell? ⟨gx, 3, none⟩ = some (.slice x5 x6 x7) ∧ W'.cell? ⟨gx, 4, none⟩ = some (.slice x8 x9 x10) ∧ W'.cell? ⟨gx, 5, none⟩ = some (.slice x11 x12 x13) ∧ W'.cell? ⟨ag, ao + i, none⟩ = some (.int .i64 yc) ∧ W'.cell? ⟨ag, ao + j, none⟩ = some (.int .i64 yf) ∧ W'.cell? ⟨lg, lo + j * 2, none⟩ = some (.int .u64 (y1' : Int)) ∧ W'.cell? ⟨lg, lo + j * 2 + 1, none⟩ = some (.int .u64 (y2' : Int))) from fun W' h => by
                  have e0 := (h.block _ (lt_heap hkx)).trans hkx
                  exact ⟨cell_of e0 rfl, cell_of e0 rfl, cell_of e0 rfl, cell_of e0 rfl, cell_of e0 rfl, cell_of e0 rfl, (h.cell (p := ⟨ag, ao + i, none⟩) (lt_of_cell hac)).trans hac, (h.cell (p := ⟨ag, ao + j, none⟩) (lt_of_cell had)).trans had, (h.cell (p := ⟨lg, lo + j * 2, none⟩) (lt_of_cell hl1)).trans hl1, (h.cell (p := ⟨lg, lo + j * 2 + 1, none⟩) (lt_of_cell hl2)).trans hl2⟩)
                clear hyc hyf hy1 hy2 hkx hbe hrz hag hac had hl1 hl2 hlg hLj HDQ HSM hjc hji
                go_upto_region 28 with fail
                clear t1 t2 t3
                go_cut [26, 27] (fun s26 s27 W => ∃ gn, s26 = .pointer (some ⟨gn, 0, none⟩) ∧ s27 = .int .i64 rz.2 ∧ Hid (BoxG W gn gx rz.1) ∧ Hid (Below wr.heap.size wr W))
                case first =>
                  refine anyL_begin (z := 19) (S := fun W9 => Below wr.heap.size wr W9) (by kernel_rfl) (Below.drew (Below.refl _ _)) (fun hHeld => ?_)
                  refine AnyL.takeD (i := 0) (d := some 136) (v := ?_) rfl rfl (by kernel_rfl) (by kernel_rfl) (fun _ _ _ h => h) (by kernel_rfl) (by kernel_rfl) (by kernel_rfl) (Or.inl ⟨by rfl, ?_⟩) hHeld ?_
                  rotate_left 1
                  focus (intro w hSw; (try dsimp only at hSw); obtain ⟨c0, c1, c2, c3, c4, c5, ck, cj, cx, cy⟩ := HC.out w hSw; go_simp; (try with_reducible rfl))
                  (repeat (first | simp only [Act.put] | simp only [List.setIfInBounds_toArray] | simp only [List.set_cons_zero] | simp only [List.set_cons_succ]))
                  refine AnyL.takeD (i := 1) (d := some 137) (v := ?_) rfl rfl (by kernel_rfl) (by kernel_rfl) (fun _ _ _ h => h) (by kernel_rfl) (by kernel_rfl) (by kernel_rfl) (Or.inl ⟨by rfl, ?_⟩) hHeld ?_
                  rotate_left 1
                  focus (intro w hSw; (try dsimp only at hSw); go_simp; (try with_reducible rfl))
                  (repeat (first | simp only [Act.put] | simp only [List.setIfInBounds_toArray] | simp only [List.set_cons_zero] | simp only [List.set_cons_succ]))
                  refine AnyL.takeD (i := 2) (d := some 138) (v := ?_) rfl rfl (by kernel_rfl) (by kernel_rfl) (fun _ _ _ h => h) (by kernel_rfl) (by kernel_rfl) (by kernel_rfl) (Or.inl ⟨by rfl, ?_⟩) hHeld ?_
                  rotate_left 1
                  focus (intro w hSw; (try dsimp only at hSw); go_simp; (try with_reducible rfl))
                  (repeat (first | simp only [Act.put] | simp only [List.setIfInBounds_toArray] | simp only [List.set_cons_zero] | simp only [List.set_cons_succ]))
                  refine AnyL.takeD (i := 3) (d := some 139) (v := ?_) rfl rfl (by kernel_rfl) (by kernel_rfl) (fun _ _ _ h => h) (by kernel_rfl) (by kernel_rfl) (by kernel_rfl) (Or.inl ⟨by rfl, ?_⟩) hHeld ?_
                  rotate_left 1
                  focus (intro w hSw; (try dsimp only at hSw); go_simp; (try with_reducible rfl))
                  (repeat (first | simp only [Act.put] | simp only [List.setIfInBounds_toArray] | simp only [List.set_cons_zero] | simp only [List.set_cons_succ]))
                  refine AnyL.takeD (i := 4) (d := some 140) (v := ?_) rfl rfl (by kernel_rfl) (by kernel_rfl) (fun _ _ _ h => h) (by kernel_rfl) (by kernel_rfl) (by kernel_rfl) (Or.inl ⟨by rfl, ?_⟩) hHeld ?_
                  rotate_left 1
                  focus (intro w hSw; (try dsimp only at hSw); obtain ⟨c0, c1, c2, c3, c4, c5, ck, cj, cx, cy⟩ := HC.out w hSw; go_simp; (try with_reducible rfl))
                  (repeat (first | simp only [Act.put] | simp only [List.setIfInBounds_toArray] | simp only [List.set_cons_zero] | simp only [List.set_cons_succ]))
                  refine AnyL.takeD (i := 5) (d := some 141) (v := ?_) rfl rfl (by kernel_rfl) (by kernel_rfl) (fun _ _ _ h => h) (by kernel_rfl) (by kernel_rfl) (by kernel_rfl) (Or.inl ⟨by rfl, ?_⟩) hHeld ?_
                  rotate_left 1
                  focus (intro w hSw; (try dsimp only at hSw); go_simp; (try with_reducible rfl))
                  (repeat (first | simp only [Act.put] | simp only [List.setIfInBounds_toArray] | simp only [List.set_cons_zero] | simp only [List.set_cons_succ]))
                  refine AnyL.takeD (i := 6) (d := some 142) (v := ?_) rfl rfl (by kernel_rfl) (by kernel_rfl) (fun _ _ _ h => h) (by kernel_rfl) (by kernel_rfl) (by kernel_rfl) (Or.inl ⟨by rfl, ?_⟩) hHeld ?_
                  rotate_left 1
                  focus (intro w hSw; (try dsimp only at hSw); go_simp; (try with_reducible rfl))
                  (repeat (first | simp only [Act.put] | simp only [List.setIfInBounds_toArray] | simp only [List.set_cons_zero] | simp only [List.set_cons_succ]))
                  refine AnyL.takeD (i := 7) (d := some 143) (v := ?_) rfl rfl (by kernel_rfl) (by kernel_rfl) (fun _ _ _ h => h) (by kernel_rfl) (by kernel_rfl) (by kernel_rfl) (Or.inl ⟨by rfl, ?_⟩) hHeld ?_
                  rotate_left 1
                  focus (intro w hSw; (try dsimp only at hSw); go_simp; (try with_reducible rfl))
                  (repeat (first | simp only [Act.put] | simp only [List.setIfInBounds_toArray] | simp only [List.set_cons_zero] | simp only [List.set_cons_succ]))
                  refine AnyL.takeD (i := 8) (d := some 144) (v := ?_) rfl rfl (by kernel_rfl) (by kernel_rfl) (fun _ _ _ h => h) (by kernel_rfl) (by kernel_rfl) (by kernel_rfl) (Or.inl ⟨by rfl, ?_⟩) hHeld ?_
                  rotate_left 1
                  focus (intro w hSw; (try dsimp only at hSw); obtain ⟨c0, c1, c2, c3, c4, c5, ck, cj, cx, cy⟩ := HC.out w hSw; go_simp; (try with_reducible rfl))
                  (repeat (first | simp only [Act.put] | simp only [List.setIfInBounds_toArray] | simp only [List.set_cons_zero] | simp only [List.set_cons_succ]))
                  refine AnyL.takeD (i := 9) (d := some 145) (v := ?_) rfl rfl (by kernel_rfl) (by kernel_rfl) (fun _ _ _ h => h) (by kernel_rfl) (by kernel_rfl) (by kernel_rfl) (Or.inl ⟨by rfl, ?_⟩) hHeld ?_
                  rotate_left 1
                  focus (intro w hSw; (try dsimp only at hSw); go_simp; (try with_reducible rfl))
                  (repeat (first | simp only [Act.put] | simp only [List.setIfInBounds_toArray] | simp only [List.set_cons_zero] | simp only [List.set_cons_succ]))
                  refine AnyL.takeD (i := 10) (d := some 146) (v := ?_) rfl rfl (by kernel_rfl) (by kernel_rfl) (fun _ _ _ h => h) (by kernel_rfl) (by kernel_rfl) (by kernel_rfl) (Or.inl ⟨by rfl, ?_⟩) hHeld ?_
                  rotate_left 1
                  focus (intro w hSw; (try dsimp only at hSw); go_simp; (try with_reducible rfl))
                  (repeat (first | simp only [Act.put] | simp only [List.setIfInBounds_toArray] | simp only [List.set_cons_zero] | simp only [List.set_cons_succ]))
                  refine AnyL.takeD (i := 11) (d := some 147) (v := ?_) rfl rfl (by kernel_rfl) (by kernel_rfl) (fun _ _ _ h => h) (by kernel_rfl) (by kernel_rfl) (by kernel_rfl) (Or.inl ⟨by rfl, ?_⟩) hHeld ?_
                  rotate_left 1
                  focus (intro w hSw; (try dsimp only at hSw); go_simp; (try with_reducible rfl))
                  (repeat (first | simp only [Act.put] | simp only [List.setIfInBounds_toArray] | simp only [List.set_cons_zero] | simp only [List.set_cons_succ]))
                  refine AnyL.takeD (i := 12) (d := some 148) (v := ?_) rfl rfl (by kernel_rfl) (by kernel_rfl) (fun _ _ _ h => h) (by kernel_rfl) (by kernel_rfl) (by kernel_rfl) (Or.inl ⟨by rfl, ?_⟩) hHeld ?_
                  rotate_left 1
                  focus (intro w hSw; (try dsimp only at hSw); obtain ⟨c0, c1, c2, c3, c4, c5, ck, cj, cx, cy⟩ := HC.out w hSw; go_simp; (try with_reducible rfl))
                  (repeat (first | simp only [Act.put] | simp only [List.setIfInBounds_toArray] | simp only [List.set_cons_zero] | simp only [List.set_cons_succ]))
                  refine AnyL.takeD (i := 13) (d := some 149) (v := ?_) rfl rfl (by kernel_rfl) (by kernel_rfl) (fun _ _ _ h => h) (by kernel_rfl) (by kernel_rfl) (by kernel_rfl) (Or.inl ⟨by rfl, ?_⟩) hHeld ?_
                  rotate_left 1
                  focus (intro w hSw; (try dsimp only at hSw); go_simp; (try with_reducible rfl))
                  (repeat (first | simp only [Act.put] | simp only [List.setIfInBounds_toArray] | simp only [List.set_cons_zero] | simp only [List.set_cons_succ]))
                  have HBa : Hid (Below wr.heap.size wr wr.drew) := Lib.hid (Below.drew (Below.refl _ _))
                  refine AnyL.two (i := 14) (j := 18) (by kernel_rfl) rfl rfl (fun K hK => ?_) (fun K hK => ?_)
                  · skip
                    go_simp
                    go_at_call 17
                    refine ((D1.out _ HBa.out).out).mono ?_
                    rintro e w7 ⟨bv, rfl, hbv, hb7⟩
                    have HB7 := Lib.hid (HBa.out.trans (hb7.mono HBa.out.size))
                    obtain ⟨gn, hgn⟩ : ∃ g, g = w7.heap.size := ⟨_, rfl⟩
                    have HGN : Hid (wr.heap.size ≤ gn) := Lib.hid (by rw [hgn]; exact HB7.out.size)
                    have hbv := IsBea.mono (M' := fun q => q ≠ gn ∧ q ≠ gx) hbv (fun q hql hq => ⟨by omega, by
                      rcases hq with hq | hq
                      · exact hq.2
                      · have h9 : wr.heap.size ≤ q := hq
                        omega⟩)
                    obtain ⟨z0, z1, z2, z3, z4, z5, z6, z7, z8, z9, z10, z11, z12, z13, rfl⟩ := hbv.shape
                    have HGE := Lib.hid hgn
                    have HBV7 := Lib.hid hbv
                    clear hbv hb7 hgn
                    refine hK.out _ _ (fun _ => HB7.out) (fun hHeld => ?_)
                    replace hHeld := hHeld (by kernel_rfl)
                    clear hK K
                    (repeat (first | simp only [Act.put] | simp only [List.setIfInBounds_toArray] | simp only [List.set_cons_zero] | simp only [List.set_cons_succ]))
                    refine AnyL.takeD (i := 15) (d := some 135) (v := ?_) rfl rfl (by kernel_rfl) (by kernel_rfl) (fun _ _ _ h => h) (by kernel_rfl) (by kernel_rfl) (by kernel_rfl) (Or.inl ⟨by rfl, ?_⟩) hHeld ?_
                    rotate_left 1
                    focus (intro w hSw; (try dsimp only at hSw); go_simp; (try with_reducible rfl))
                    (repeat (first | simp only [Act.put] | simp only [List.setIfInBounds_toArray] | simp only [List.set_cons_zero] | simp only [List.set_cons_succ]))
                    refine AnyL.takeD (i := 16) (d := some 151) (v := ?_) rfl rfl (by kernel_rfl) (by kernel_rfl) (fun _ _ _ h => h) (by kernel_rfl) (by kernel_rfl) (by kernel_rfl) (Or.inl ⟨by rfl, ?_⟩) hHeld ?_
                    rotate_left 1
                    focus (intro w hSw; (try dsimp only at hSw); go_simp; (try with_reducible rfl))
                    (repeat (first | simp only [Act.put] | simp only [List.setIfInBounds_toArray] | simp only [List.set_cons_zero] | simp only [List.set_cons_succ]))
                    refine AnyL.lateD (i := 17) (d := some 152) (v := ?_) rfl rfl (by kernel_rfl) (by kernel_rfl) (fun _ _ _ h => h) (by kernel_rfl) (by kernel_rfl) (Or.inl ⟨by rfl, ?_⟩) (fun _ => hHeld) ?_
                    rotate_left 1
                    focus (intro w hSw; (try dsimp only at hSw); go_simp; (try with_reducible rfl))
                    (repeat (first | simp only [Act.put] | simp only [List.setIfInBounds_toArray] | simp only [List.set_cons_zero] | simp only [List.set_cons_succ]))
                    refine AnyL.one (i := 18) (by kernel_rfl) rfl (fun K hK => ?_)
                    go_simp
                    refine nameG (w := w7.alloc (.cells #[.slice none 0 0, .int .i64 0, .int .u64 0, .slice none 0 0, .slice none 0 0, .slice none 0 0] 32)) (p := fun W => K _ W) fun w8 hw8 => ?_
                    have hb8w : Below w7.heap.size w7 w8 := by rw [hw8.out]; exact (Below.refl _ _).alloc (Nat.le_refl _) _
                    have g8 : w8.heap[gn]? = some (.cells #[.slice none 0 0, .int .i64 0, .int .u64 0, .slice none 0 0, .slice none 0 0, .slice none 0 0] 32 (0, 0)) := by rw [hw8.out, HGE.out]; exact heap_alloc_new _ _
                    rw [← HGE.out]
                    have HB8 := Lib.hid (HB7.out.trans (hb8w.mono HB7.out.size))
                    have HBV8 := Lib.hid (HBV7.out.below hb8w)
                    have G8 := Lib.hid g8
                    obtain ⟨⟨c0, c1, c2, c3, c4, c5⟩, ⟨f0, f1, f2, f3, f4, f5⟩⟩ := blk6 g8
                    clear hb8w g8 hw8 HB7
                    refine hK.out _ _ (fun _ => HB8.out) (fun hHeld => ?_)
                    replace hHeld := hHeld (by kernel_rfl)
                    clear hK K
                    (repeat (first | simp only [Act.put] | simp only [List.setIfInBounds_toArray] | simp only [List.set_cons_zero] | simp only [List.set_cons_succ]))
                    refine AnyL.one (i := 19) (by kernel_rfl) rfl (fun K hK => ?_)
                    go_simp
                    refine hK.out _ _ (fun h => nomatch (show true = false from h)) (fun _ => ?_)
                    clear hK K
                    (try dsimp only)
                    refine AnyL.one (i := 20) (by kernel_rfl) rfl (fun K hK => ?_)
                    go_simp
                    refine hK.out _ _ (fun h => nomatch (show true = false from h)) (fun _ => ?_)
                    clear hK K
                    (try dsimp only)
                    refine AnyL.done (by kernel_rfl) ?_
                    clear c0 c1 c2 c3 c4 c5 f0 f1 f2 f3 f4 f5
                    go_wp2_with fail
                    go_meet
                    case rel => exact ⟨gn, rfl, rfl, Lib.hid ⟨z0, z1, z2, z3, z4, z5, z6, z7, z8, z9, z10, z11, z12, z13, w6_at G8.out _ _ _ _ _ _, HBV8.out.keep fun p hp _ => World.cell?_of_block (w := w8) (w6_other hp.1 _ _ _ _ _ _)⟩, Lib.hid (w6_below HB8.out HGN.out _ _ _ _ _ _)⟩
                  · skip
                    go_simp
                    refine nameG (w := wr.drew.alloc (.cells #[.slice none 0 0, .int .i64 0, .int .u64 0, .slice none 0 0, .slice none 0 0, .slice none 0 0] 32)) (p := fun W => K _ W) fun w7 hw7 => ?_
                    obtain ⟨gn, hgn⟩ : ∃ g, g = wr.heap.size := ⟨_, rfl⟩
                    have HGN : Hid (wr.heap.size ≤ gn) := Lib.hid (by rw [hgn]; exact Nat.le_refl _)
                    have g7 : w7.heap[gn]? = some (.cells #[.slice none 0 0, .int .i64 0, .int .u64 0, .slice none 0 0, .slice none 0 0, .slice none 0 0] 32 (0, 0)) := by rw [hw7.out, hgn]; exact heap_alloc_new _ _
                    have HB7 : Hid (Below wr.heap.size wr w7) := Lib.hid (by rw [hw7.out]; exact HBa.out.alloc HBa.out.size _)
                    have HS7 : Hid (w7.heap.size = wr.heap.size + 1 ∧ gn = wr.heap.size) := Lib.hid ⟨by rw [hw7.out]; simp, hgn⟩
                    rw [← hgn]
                    have G7 := Lib.hid g7
                    clear hgn g7 hw7
                    refine hK.out _ _ (fun _ => HB7.out) (fun hHeld => ?_)
                    replace hHeld := hHeld (by kernel_rfl)
                    clear hK K
                    (repeat (first | simp only [Act.put] | simp only [List.setIfInBounds_toArray] | simp only [List.set_cons_zero] | simp only [List.set_cons_succ]))
                    refine AnyL.one (i := 14) (by kernel_rfl) rfl (fun K hK => ?_)
                    go_simp
                    go_at_call 17
                    refine ((D1.out _ HB7.out).out).mono ?_
                    rintro e w8 ⟨bv, rfl, hbv, hb8⟩
                    have HB8 := Lib.hid (HB7.out.trans (hb8.mono HB7.out.size))
                    have hs7 := HS7.out
                    have g8 := (hb8.block _ (lt_heap G7.out)).trans G7.out
                    have hbv := IsBea.mono (M' := fun q => q ≠ gn ∧ q ≠ gx) hbv (fun q _ hq => by
                      rcases hq with hq | hq
                      · exact ⟨by omega, hq.2⟩
                      · exact ⟨by omega, by omega⟩)
                    obtain ⟨z0, z1, z2, z3, z4, z5, z6, z7, z8, z9, z10, z11, z12, z13, rfl⟩ := hbv.shape
                    have HBV8 := Lib.hid hbv
                    have G8 := Lib.hid g8
                    clear hs7
                    obtain ⟨⟨c0, c1, c2, c3, c4, c5⟩, ⟨f0, f1, f2, f3, f4, f5⟩⟩ := blk6 g8
                    clear hbv hb8 g8 HB7 G7
                    refine hK.out _ _ (fun _ => HB8.out) (fun hHeld => ?_)
                    replace hHeld := hHeld (by kernel_rfl)
                    clear hK K
                    (repeat (first | simp only [Act.put] | simp only [List.setIfInBounds_toArray] | simp only [List.set_cons_zero] | simp only [List.set_cons_succ]))
                    refine AnyL.takeD (i := 15) (d := some 135) (v := ?_) rfl rfl (by kernel_rfl) (by kernel_rfl) (fun _ _ _ h => h) (by kernel_rfl) (by kernel_rfl) (by kernel_rfl) (Or.inl ⟨by rfl, ?_⟩) hHeld ?_
                    rotate_left 1
                    focus (intro w hSw; (try dsimp only at hSw); go_simp; (try with_reducible rfl))
                    (repeat (first | simp only [Act.put] | simp only [List.setIfInBounds_toArray] | simp only [List.set_cons_zero] | simp only [List.set_cons_succ]))
                    refine AnyL.takeD (i := 16) (d := some 151) (v := ?_) rfl rfl (by kernel_rfl) (by kernel_rfl) (fun _ _ _ h => h) (by kernel_rfl) (by kernel_rfl) (by kernel_rfl) (Or.inl ⟨by rfl, ?_⟩) hHeld ?_
                    rotate_left 1
                    focus (intro w hSw; (try dsimp only at hSw); go_simp; (try with_reducible rfl))
                    (repeat (first | simp only [Act.put] | simp only [List.setIfInBounds_toArray] | simp only [List.set_cons_zero] | simp only [List.set_cons_succ]))
                    refine AnyL.lateD (i := 17) (d := some 152) (v := ?_) rfl rfl (by kernel_rfl) (by kernel_rfl) (fun _ _ _ h => h) (by kernel_rfl) (by kernel_rfl) (Or.inl ⟨by rfl, ?_⟩) (fun _ => hHeld) ?_
                    rotate_left 1
                    focus (intro w hSw; (try dsimp only at hSw); go_simp; (try with_reducible rfl))
                    (repeat (first | simp only [Act.put] | simp only [List.setIfInBounds_toArray] | simp only [List.set_cons_zero] | simp only [List.set_cons_succ]))
                    refine AnyL.one (i := 19) (by kernel_rfl) rfl (fun K hK => ?_)
                    go_simp
                    refine hK.out _ _ (fun h => nomatch (show true = false from h)) (fun _ => ?_)
                    clear hK K
                    (try dsimp only)
                    refine AnyL.one (i := 20) (by kernel_rfl) rfl (fun K hK => ?_)
                    go_simp
                    refine hK.out _ _ (fun h => nomatch (show true = false from h)) (fun _ => ?_)
                    clear hK K
                    (try dsimp only)
                    refine AnyL.done (by kernel_rfl) ?_
                    clear c0 c1 c2 c3 c4 c5 f0 f1 f2 f3 f4 f5
                    go_wp2_with fail
                    go_meet
                    case rel => exact ⟨gn, rfl, rfl, Lib.hid ⟨z0, z1, z2, z3, z4, z5, z6, z7, z8, z9, z10, z11, z12, z13, w6_at G8.out _ _ _ _ _ _, HBV8.out.keep fun p hp _ => World.cell?_of_block (w := w8) (w6_other hp.1 _ _ _ _ _ _)⟩, Lib.hid (w6_below HB8.out HGN.out _ _ _ _ _ _)⟩
                case rest =>
                  obtain ⟨gn, rfl, rfl, HBG, HBd⟩ := hcut
                  rw [HRZ.out.1]
                  rw [HRZ.out.1] at HBG
                  dsimp only at HBG ⊢
                  have HD2 := Lib.hid HRZ.out.2
                  obtain ⟨b2, hb2⟩ : ∃ z, z = ({b with opns := b.opns ++ [opO cl ps i j]} : BeaD) := ⟨_, rfl⟩
                  rw [← hb2] at HBG HD2
                  have HSHc := Lib.hid (IsSl.below HSH.out HBd.out)
                  clear D1 HC c0 c1 c2 c3 c4 c5 f0 f1 f2 f3 f4 f5 HRZ hb2
                  have HBXc := Lib.hid (BoxN.below HBX.out HBd.out)
                  have HBc := Lib.hid (HB.out.trans (HBd.out.mono HB.out.size))
                  obtain ⟨z0, z1, z2, z3, z4, z5, z6, z7, z8, z9, z10, z11, z12, z13, hkz, hbz⟩ := HBG.out
                  obtain ⟨⟨a0, a1, a2, a3, a4, a5⟩, ⟨g0, g1, g2, g3, g4, g5⟩⟩ := blk6 hkz
                  obtain ⟨x0, x1, x2, x3, x4, x5, x6, x7, x8, x9, x10, x11, x12, x13, hkx, hbx⟩ := HBXc.out
                  obtain ⟨⟨c0, c1, c2, c3, c4, c5⟩, ⟨f0, f1, f2, f3, f4, f5⟩⟩ := blk6 hkx
                  clear hbx
                  go_upto_region 32 with fail
                  refine nameC fun W9 hW9 => ?_
                  have hw9 : W9 = w6 wc gx (.slice z0 z1 z2) (.int .i64 z3) (.int .u64 z4) (.slice z5 z6 z7) (.slice z8 z9 z10) (.slice z11 z12 z13) := hW9.out
                  have HBX9 := Lib.hid (show BoxN W9 gx b2 by rw [hw9]; exact BoxN.set (w := wc) HBXc.out (Below.refl _ _) (IsBea.mono hbz (fun q _ hq => Or.inl hq.2)))
                  have HB9 : Hid (Below w.heap.size w W9) := Lib.hid (by rw [hw9]; exact w6_below HBc.out hgl _ _ _ _ _ _)
                  have HSH9 : Hid (IsShs W9 (fun q => q ≠ gx) (.slice (some ⟨lg, lo, none⟩) n lc) L) := Lib.hid (by rw [hw9]; exact IsSl.keep HSHc.out fun p hp _ => World.cell?_of_block (w := wc) (w6_other hp _ _ _ _ _ _))
                  clear hw9 hW9 hkz hkx hbz HBXc HBc c0 c1 c2 c3 c4 c5 f0 f1 f2 f3 f4 f5 a0 a1 a2 a3 a4 a5 g0 g1 g2 g3 g4 g5
                  go_wp2_with fail
                  go_roundw
                  case rel => exact ⟨j + 1, q + 1, b2, by omega, by go_num, by go_num, HD2, HBX9, HB9, HSH9⟩
                  case measure => simp [intOf]; omega
end Go.Proofs.Ytgaanndidcdbpaa
