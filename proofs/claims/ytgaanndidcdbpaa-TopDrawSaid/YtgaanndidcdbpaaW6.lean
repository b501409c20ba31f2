/- The law TopDraw. -/
import Derived.Test.YtgaanndidcdbpaaW3
import Derived.Test.YtgaanndidcdbpaaW5
import Derived.Deep.DeepCutAuto
import Derived.BigQuiet
namespace Go.Proofs.Ytgaanndidcdbpaa
open Go.RowKit Go.Shelf

theorem wrap_small {x : Int} (h : 0 ≤ x) (h2 : x ≤ 1000) : IntKind.i64.wrap x = x := by simp [IntKind.wrap, IntKind.signed, IntKind.bits]; omega
theorem wrap_four {a b c e : Int} (h1 : a = c) (h2 : b = e) (c0 : 0 ≤ c) (c1 : c ≤ 1000) (e0 : 0 ≤ e) (e1 : e ≤ 1000) : IntKind.i64.wrap a = c ∧ IntKind.i64.wrap b = e ∧ IntKind.i64.wrap c = c ∧ IntKind.i64.wrap e = e := by
  subst h1 h2
  exact ⟨wrap_small c0 c1, wrap_small e0 e1, wrap_small c0 c1, wrap_small e0 e1⟩
theorem IsDrawL {w : World} {M M' : Nat → Prop} {v : Value} {d : Dw.DrawD} (h : Dw.IsDraw w M v d) (hM : ∀ b, b < w.heap.size → M b → M' b) : Dw.IsDraw w M' v d := by
  obtain ⟨v1, v2, v3, e, h1, h2, h3⟩ := h
  exact ⟨v1, v2, v3, e, IsSl.mono h1 hM (by omega), IsSl.mono h2 hM (by omega), IsSl.mono h3 hM (by omega)⟩
set_option maxRecDepth 100000 in
set_option maxHeartbeats 8000000 in
theorem topDraw_any (w : World) (M M2 M3 : Nat → Prop) (v u sv : Value) (d : Dw.DrawD) (t hz : Int) (xs : List Nat) (bs : List Bool) (hd : Dw.IsDraw w M v d) (hx : IsU64 w M2 u xs) (hu : U64s xs) (hb : IsBools w M3 sv bs) :
    Calls Try.prog 8 #[v, .int .i64 t, .int .i64 hz, u, sv] w (RetT true w) := by
  have HD := Lib.hid (IsDrawM (M' := TT) hd (fun _ _ => trivial))
  have HX := Lib.hid hx
  have HU := Lib.hid hu
  have HBO := Lib.hid hb
  obtain ⟨v1, v2, v3, rfl, h1, h2, h3⟩ := id hd
  obtain ⟨A1, c1, rfl, -⟩ := id h1
  obtain ⟨A2, c2, rfl, -⟩ := id h2
  obtain ⟨A3, c3, rfl, -⟩ := id h3
  obtain ⟨uA, uc, rfl, -⟩ := id hx
  obtain ⟨sA, sc, rfl, -⟩ := id hb
  obtain ⟨l1, hl1⟩ : ∃ z, z = d.first.length := ⟨_, rfl⟩
  obtain ⟨l2, hl2⟩ : ∃ z, z = d.second.length := ⟨_, rfl⟩
  obtain ⟨l3, hl3⟩ : ∃ z, z = d.forb.length := ⟨_, rfl⟩
  obtain ⟨xl, hxl⟩ : ∃ z, z = xs.length := ⟨_, rfl⟩
  obtain ⟨bl, hbl⟩ : ∃ z, z = bs.length := ⟨_, rfl⟩
  have HL := Lib.hid (And.intro hl1 (And.intro hl2 (And.intro hl3 (And.intro hxl hbl))))
  rw [← hl1, ← hl2, ← hl3] at HD
  rw [← hxl] at HX
  rw [← hbl] at HBO
  rw [← hl1, ← hl2, ← hl3, ← hxl, ← hbl]
  clear hd hx hu hb h1 h2 h3 hl1 hl2 hl3 hxl hbl
  go_enter Try.func8, Try.ntmps8
  go_wp2_with fail
  refine nameW fun W1 hW1 => ?_
  have hb1 : Below w.heap.size w W1 := by rw [hW1.out]; exact (Below.refl _ _).alloc (Nat.le_refl _) _
  have k0 : W1.heap[w.heap.size]? = some (.cells #[.slice A1 l1 c1, .slice A2 l2 c2, .slice A3 l3 c3] 73 (0, 0)) := by rw [hW1.out]; exact heap_alloc_new _ _
  obtain ⟨gd, hgd⟩ : ∃ g, g = w.heap.size := ⟨_, rfl⟩
  rw [← hgd] at k0 ⊢
  have HGD := Lib.hid hgd
  clear hgd
  refine (dsane_any W1).mono ?_
  rintro e W2 ⟨rfl, hb2⟩
  have HB2 := Lib.hid (hb1.trans (hb2.mono hb1.size))
  have K2 := Lib.hid ((hb2.block _ (lt_heap k0)).trans k0)
  clear hb1 k0 hW1 hb2
  have c0 := cell_of (j := 0) K2.out rfl
  have c1_ := cell_of (j := 1) K2.out rfl
  have c2_ := cell_of (j := 2) K2.out rfl
  by_cases q1 : l1 ≤ 4
  case neg =>
    have q1f : (4 : Int) < (l1 : Int) := by omega
    clear q1
    go_wp2_with fail
    go_ret
    exact ⟨rfl, HB2.out⟩
  have q1f : ¬ (4 : Int) < (l1 : Int) := by omega
  by_cases q2 : l2 ≤ 4
  case neg =>
    have q2f : (4 : Int) < (l2 : Int) := by omega
    clear q2
    go_wp2_with fail
    go_ret
    exact ⟨rfl, HB2.out⟩
  have q2f : ¬ (4 : Int) < (l2 : Int) := by omega
  by_cases q3 : l3 ≤ 20
  case neg =>
    have q3f : (20 : Int) < (l3 : Int) := by omega
    clear q3
    go_wp2_with fail
    go_ret
    exact ⟨rfl, HB2.out⟩
  have q3f : ¬ (20 : Int) < (l3 : Int) := by omega
  by_cases q4 : xl ≤ 200
  case neg =>
    have q4f : (200 : Int) < (xl : Int) := by omega
    clear q4
    go_wp2_with fail
    go_ret
    exact ⟨rfl, HB2.out⟩
  have q4f : ¬ (200 : Int) < (xl : Int) := by omega
  go_wp2_with fail
  refine (Dw.count_any W2 _ _ d (IsDraw.keep HD.out fun p _ hl => HB2.out.cell hl)).mono ?_
  rintro e W3 ⟨rfl, hb3⟩
  obtain ⟨cz, hcz⟩ : ∃ z, z = Dw.countD d := ⟨_, rfl⟩
  have HCZ := Lib.hid hcz
  rw [← hcz]
  obtain ⟨N, er⟩ := cz
  have HB3 := Lib.hid (HB2.out.trans (hb3.mono HB2.out.size))
  have K3 := Lib.hid ((hb3.block _ (lt_heap K2.out)).trans K2.out)
  clear hcz hb3 c0 c1_ c2_ q1f q2f q3f q4f
  dsimp only
  have c0 := cell_of (j := 0) K3.out rfl
  have c1_ := cell_of (j := 1) K3.out rfl
  have c2_ := cell_of (j := 2) K3.out rfl
  go_wp2_with fail
  refine (pots_any W3 _ _ d (IsDraw.keep HD.out fun p _ hl => HB3.out.cell hl) ⟨by have := HL.out.1; omega, by have := HL.out.2.1; omega⟩).mono ?_
  rintro e W4 ⟨cv, rfl, hcv, hb4⟩
  obtain ⟨cA, cc, rfl, -⟩ := id hcv
  have HCV := Lib.hid hcv
  have hcl8 : (pots d).length ≤ 8 := by have := pots_len d; have h1 := HL.out.1; have h2 := HL.out.2.1; omega
  obtain ⟨n, hn⟩ : ∃ z, z = (pots d).length := ⟨_, rfl⟩
  have HN := Lib.hid hn
  rw [← hn] at hcl8 HCV ⊢
  have HB4 := Lib.hid (HB3.out.trans (hb4.mono HB3.out.size))
  have K4 := Lib.hid ((hb4.block _ (lt_heap K3.out)).trans K3.out)
  clear hn hb4 hcv c0 c1_ c2_ K2 HB2 K3 HB3
  by_cases e1 : er = 0
  case neg =>
    have e1f : (er != 0) = true := by rw [bne_iff_ne]; exact e1
    clear e1
    go_wp2_with fail
    go_ret
    exact ⟨rfl, HB4.out⟩
  subst e1
  by_cases e2 : N ≠ 0
  case neg =>
    have e2f : ((N : Int) == 0) = true := by simp; omega
    clear e2
    go_wp2_with fail
    go_ret
    exact ⟨rfl, HB4.out⟩
  have e2f : ((N : Int) == 0) = false := by simp; omega
  by_cases e3 : N ≤ 24
  case neg =>
    have e3f : (24 : Int) < (N : Int) := by omega
    clear e3
    go_wp2_with fail
    go_ret
    exact ⟨rfl, HB4.out⟩
  have e3f : ¬ (24 : Int) < (N : Int) := by omega
  by_cases e4 : 2 ≤ n
  case neg =>
    have e4f : (n : Int) < 2 := by omega
    clear e4
    go_wp2_with fail
    go_ret
    exact ⟨rfl, HB4.out⟩
  have e4f : ¬ (n : Int) < 2 := by omega
  by_cases e5 : 1 ≤ t
  case neg =>
    have e5f : decide (t < 1) = true := decide_eq_true (by omega)
    clear e5
    go_wp2_with fail
    go_ret
    exact ⟨rfl, HB4.out⟩
  have e5f : decide (t < 1) = false := decide_eq_false (by omega)
  by_cases e6 : t < (n : Int)
  case neg =>
    have e6f : decide ((n : Int) ≤ t) = true := decide_eq_true (by omega)
    clear e6
    go_wp2_with fail
    go_ret
    exact ⟨rfl, HB4.out⟩
  have e6f : decide ((n : Int) ≤ t) = false := decide_eq_false (by omega)
  by_cases e7 : 0 ≤ hz
  case neg =>
    have e7f : decide (hz < 0) = true := decide_eq_true (by omega)
    clear e7
    go_wp2_with fail
    go_ret
    exact ⟨rfl, HB4.out⟩
  have e7f : decide (hz < 0) = false := decide_eq_false (by omega)
  by_cases e8 : hz < (n : Int)
  case neg =>
    have e8f : decide ((n : Int) ≤ hz) = true := decide_eq_true (by omega)
    clear e8
    go_wp2_with fail
    go_ret
    exact ⟨rfl, HB4.out⟩
  have e8f : decide ((n : Int) ≤ hz) = false := decide_eq_false (by omega)
  obtain ⟨T, hTe⟩ : ∃ T : Nat, t = (T : Int) := ⟨t.toNat, by omega⟩
  obtain ⟨h, hhe⟩ : ∃ h : Nat, hz = (h : Int) := ⟨hz.toNat, by omega⟩
  obtain ⟨nt, hnt⟩ : ∃ q : Nat, q = n * T := ⟨_, rfl⟩
  have hnt1 : nt ≤ 64 := by rw [hnt]; exact Nat.mul_le_mul hcl8 (show T ≤ 8 by omega)
  have hnt2 : (n : Int) * t = (nt : Int) := by rw [hnt, hTe]; rfl
  by_cases e9 : nt ≤ xl
  case neg =>
    have e9f : (xl : Int) < (nt : Int) := by omega
    clear e9
    go_wp2_with fail
    go_ret
    exact ⟨rfl, HB4.out⟩
  have e9f : ¬ (xl : Int) < (nt : Int) := by omega
  by_cases e10 : n ≤ bl
  case neg =>
    have e10f : (bl : Int) < (n : Int) := by omega
    clear e10
    go_wp2_with fail
    go_ret
    exact ⟨rfl, HB4.out⟩
  have e10f : ¬ (bl : Int) < (n : Int) := by omega
  have HCK := Lib.hid (show Dw.checkB d = true ∧ N = Dw.Rn (Dw.mayD d) (Dw.nD d) 0 by
    have h9 := HCZ.out
    unfold Dw.countD at h9
    split at h9
    · rename_i hc; exact ⟨hc, congrArg Prod.fst h9⟩
    · cases h9)
  have HNW := Lib.hid (show NewOk (pots d) (T : Int) N from ⟨by rw [← HN.out]; exact e4, by rw [← HN.out]; omega, by omega, by rw [← HN.out]; omega, by omega, by omega, pots_clubs d⟩)
  have HNT := Lib.hid hnt
  have hT0 : 1 ≤ T := by omega
  have hTn : T < n := by omega
  have hhn : h < n := by omega
  obtain ⟨cs1, hmk1, hmr1⟩ := makeTab n (by omega)
  go_upto_region 10 with fail
  refine nameC fun W5 hW5 => ?_
  have hb5 : Below W4.heap.size W4 W5 := by rw [hW5.out]; exact (Below.refl _ _).alloc (Nat.le_refl _) _
  have hr5 : W5.rowIs W4.heap.size 35 n (fun _ => .slice none 0 0) := by rw [hW5.out]; exact hmr1 W4
  clear e2f e3f e4f e5f e6f e7f e8f e9f e10f hnt2
  subst hTe hhe
  obtain ⟨gc, hgc⟩ : ∃ g, g = W4.heap.size := ⟨_, rfl⟩
  rw [← hgc] at hr5 ⊢
  have HGC := Lib.hid hgc
  have HCF : Hid (CfW W5 (gc + 1) gc n (fun _ => .slice none 0 0) (fun _ => [])) := Lib.hid (CfW.start hr5 (by omega))
  have HB5 : Hid (Below W4.heap.size W4 W5) := Lib.hid hb5
  clear hW5 hb5 hr5 hmk1 hmr1 hgc cs1 hnt HCZ
  go_wp2_with fail
  go_loopw [15] (fun s15 wr => ∃ (i : Nat) (X : Nat → Value) (F : Nat → List Nat), i ≤ n ∧ s15 = .int .i64 (i : Int) ∧ Hid (CfW wr (gc + 1) gc n X F) ∧ Hid (∀ r, r < n → F r = if r < i then gF xs T r T else []) ∧ Hid (Below W4.heap.size W4 wr)) (fun s15 _ => n - (intOf s15).toNat)
  case atStart => exact ⟨0, _, _, Nat.zero_le _, rfl, HCF, Lib.hid (fun r _ => by rw [if_neg (by omega)]), HB5⟩
  case round =>
    clear HCF HB5
    obtain ⟨i, X, F, hi, rfl, HCF, HF, HB⟩ := hrel
    by_cases hlt : i < n
    · as_aux_lemma =>
        have hT8 : T ≤ 8 := by omega
        have HQ := Lib.hid (show decide (n ≤ T) = false ∧ decide (n ≤ h) = false ∧ decide (bl < n) = false from ⟨decide_eq_false (by omega), decide_eq_false (by omega), decide_eq_false (by omega)⟩)
        clear e2 e3 e4 e5 e6 e7 e8 e10 hTn hhn
        have hi1 : (i : Int) < (n : Int) := by omega
        have hi0 : (0 : Int) ≤ (i : Int) := by omega
        obtain ⟨it, hit⟩ : ∃ q : Nat, q = i * T := ⟨_, rfl⟩
        have HIT := Lib.hid hit
        have hit1 : it ≤ 64 := by rw [hit]; exact Nat.mul_le_mul (show i ≤ 8 by omega) (show T ≤ 8 by omega)
        have hit2 : (i : Int) * (T : Int) = (it : Int) := by rw [hit]; rfl
        have hit3 : it + T ≤ nt := by
          rw [hit, HNT.out, ← Nat.succ_mul]
          exact Nat.mul_le_mul_right _ (by omega)
        clear hit
        go_wp2_with fail
        obtain ⟨wo, hwo⟩ : ∃ wo, wo = wr := ⟨_, rfl⟩
        subst hwo
        go_loopw [16] (fun s16 wr => ∃ (j : Nat) (X : Nat → Value) (F : Nat → List Nat), j ≤ T ∧ s16 = .int .i64 (j : Int) ∧ Hid (CfW wr (gc + 1) gc n X F) ∧ Hid (∀ r, r < n → F r = if r < i then gF xs T r T else if r = i then gF xs T i j else []) ∧ Hid (Below W4.heap.size W4 wr)) (fun s16 _ => T - (intOf s16).toNat)
        case atStart => exact ⟨0, X, F, Nat.zero_le _, rfl, HCF, Lib.hid (fun r hr => by
          rw [HF.out r hr]
          split
          · rfl
          · split
            · rfl
            · rfl), HB⟩
        case round =>
          clear HCF HF HB
          obtain ⟨j, X, F, hj, rfl, HCF, HF, HB⟩ := hrel
          by_cases hjt : j < T
          · have hj1 : (j : Int) < (T : Int) := by omega
            have hj0 : (0 : Int) ≤ (j : Int) := by omega
            obtain ⟨ij, hijE⟩ : ∃ q : Nat, q = it + j := ⟨_, rfl⟩
            have hij2 : (it : Int) + (j : Int) = (ij : Int) := by omega
            have hij1 : ij ≤ 200 := by omega
            have hij0 : (0 : Int) ≤ (ij : Int) := by omega
            have hij : (ij : Int) < (xl : Int) := by omega
            have HW := Lib.hid (show IntKind.i64.wrap ((i : Int) * (T : Int)) = (it : Int) ∧ IntKind.i64.wrap ((it : Int) + (j : Int)) = (ij : Int) ∧ IntKind.i64.wrap (it : Int) = (it : Int) ∧ IntKind.i64.wrap (ij : Int) = (ij : Int) from wrap_four hit2 hij2 (by omega) (by omega) (by omega) (by omega))
            have HBw := Lib.hid (HB4.out.trans (HB.out.mono HB4.out.size))
            obtain ⟨xg, xo, rfl, hxg, hxc⟩ := IsU64.at_ (show IsU64 w M2 (.slice uA xs.length uc) xs by rw [← HL.out.2.2.2.1]; exact HX.out) HBw.out (show it + j < xs.length by rw [← HL.out.2.2.2.1]; omega)
            obtain ⟨sx, hsx⟩ : ∃ z, z = xs[it + j]'(by rw [← HL.out.2.2.2.1]; omega) := ⟨_, rfl⟩
            rw [← hsx] at hxc
            obtain ⟨y, hy⟩ : ∃ z : Nat, z = sx % 1152921504606845789 := ⟨_, rfl⟩
            have HY := Lib.hid (show y = xs.getD (i * T + j) 0 % 1152921504606845789 by
              rw [hy, hsx, ← HIT.out, List.getD_eq_getElem?_getD, List.getElem?_eq_getElem]; rfl)
            have HYQ := Lib.hid (show (sx : Int) % 1152921504606845789 = (y : Int) ∧ (sx : Int).tmod 1152921504606845789 = (y : Int) by rw [hy]; exact ⟨rfl, rfl⟩)
            have hca := HCF.out.cell hlt
            have hfl : (F i).length = j := by rw [HF.out i hlt, if_neg (by omega), if_pos rfl, gF_len]
            rw [← hijE] at hxc
            have HCA := Lib.hid (show ∀ W', Below wr.heap.size wr W' → (W'.cell? ⟨gc, i, none⟩ = some (X i) ∧ W'.cell? ⟨xg, xo + ij, none⟩ = some (.int .u64 (sx : Int))) from fun W' hW' => ⟨(hW'.cell (p := ⟨gc, i, none⟩) (lt_of_cell hca)).trans hca, (hW'.cell (p := ⟨xg, xo + ij, none⟩) (lt_of_cell hxc)).trans hxc⟩)
            have hsr := HB.out.size
            have HGG := Lib.hid (show wr.heap.size > gc from HCF.out.glt)
            obtain ⟨Xi, hXi⟩ : ∃ z, z = X i := ⟨_, rfl⟩
            rw [← hXi] at HCA
            have HXI := Lib.hid hXi
            have HXG := Lib.hid (show xg < gc by have h8 := HB4.out.size; have h9 := HGC.out; omega)
            clear hsx hy hxg hxc hca hXi hijE
            go_upto_region 16 with fail
            refine anyL_begin (z := 18) (S := fun W9 => (W9.cell? ⟨gc, i, none⟩ = some Xi ∧ W9.cell? ⟨xg, xo + ij, none⟩ = some (.int .u64 (sx : Int)))) (by kernel_rfl) (HCA.out _ (Below.drew (Below.refl _ _))) (fun hHeld => ?_)
            refine AnyL.takeD (i := 0) (d := some 123) (v := ?_) rfl rfl (by kernel_rfl) (by kernel_rfl) (fun _ _ _ h => h) (by kernel_rfl) (by kernel_rfl) (by kernel_rfl) (Or.inl ⟨by rfl, ?_⟩) hHeld ?_
            rotate_left 1
            focus (intro w hSw; (try dsimp only at hSw); go_simp; (try with_reducible rfl))
            (repeat (first | simp only [Act.put] | simp only [List.setIfInBounds_toArray] | simp only [List.set_cons_zero] | simp only [List.set_cons_succ]))
            refine AnyL.takeD (i := 1) (d := some 124) (v := ?_) rfl rfl (by kernel_rfl) (by kernel_rfl) (fun _ _ _ h => h) (by kernel_rfl) (by kernel_rfl) (by kernel_rfl) (Or.inl ⟨by rfl, ?_⟩) hHeld ?_
            rotate_left 1
            focus (intro w hSw; (try dsimp only at hSw); go_simp; (try with_reducible rfl))
            (repeat (first | simp only [Act.put] | simp only [List.setIfInBounds_toArray] | simp only [List.set_cons_zero] | simp only [List.set_cons_succ]))
            refine AnyL.takeD (i := 2) (d := some 125) (v := ?_) rfl rfl (by kernel_rfl) (by kernel_rfl) (fun _ _ _ h => h) (by kernel_rfl) (by kernel_rfl) (by kernel_rfl) (Or.inl ⟨by rfl, ?_⟩) hHeld ?_
            rotate_left 1
            focus (intro w hSw; (try dsimp only at hSw); go_simp; (try with_reducible rfl))
            (repeat (first | simp only [Act.put] | simp only [List.setIfInBounds_toArray] | simp only [List.set_cons_zero] | simp only [List.set_cons_succ]))
            refine AnyL.takeD (i := 3) (d := some 126) (v := ?_) rfl rfl (by kernel_rfl) (by kernel_rfl) (fun _ _ _ h => h) (by kernel_rfl) (by kernel_rfl) (by kernel_rfl) (Or.inl ⟨by rfl, ?_⟩) hHeld ?_
            rotate_left 1
            focus (intro w hSw; (try dsimp only at hSw); go_simp; (try with_reducible rfl))
            (repeat (first | simp only [Act.put] | simp only [List.setIfInBounds_toArray] | simp only [List.set_cons_zero] | simp only [List.set_cons_succ]))
            refine AnyL.takeD (i := 4) (d := some 127) (v := ?_) rfl rfl (by kernel_rfl) (by kernel_rfl) (fun _ _ _ h => h) (by kernel_rfl) (by kernel_rfl) (by kernel_rfl) (Or.inl ⟨by rfl, ?_⟩) hHeld ?_
            rotate_left 1
            focus (intro w hSw; (try dsimp only at hSw); go_simp; (try with_reducible rfl))
            (repeat (first | simp only [Act.put] | simp only [List.setIfInBounds_toArray] | simp only [List.set_cons_zero] | simp only [List.set_cons_succ]))
            refine AnyL.takeD (i := 5) (d := some 128) (v := ?_) rfl rfl (by kernel_rfl) (by kernel_rfl) (fun _ _ _ h => h) (by kernel_rfl) (by kernel_rfl) (by kernel_rfl) (Or.inl ⟨by rfl, ?_⟩) hHeld ?_
            rotate_left 1
            focus (intro w hSw; (try dsimp only at hSw); obtain ⟨ca, cx⟩ := hSw; go_simp; (try with_reducible rfl))
            (repeat (first | simp only [Act.put] | simp only [List.setIfInBounds_toArray] | simp only [List.set_cons_zero] | simp only [List.set_cons_succ]))
            refine AnyL.takeD (i := 6) (d := some 129) (v := ?_) rfl rfl (by kernel_rfl) (by kernel_rfl) (fun _ _ _ h => h) (by kernel_rfl) (by kernel_rfl) (by kernel_rfl) (Or.inl ⟨by rfl, ?_⟩) hHeld ?_
            rotate_left 1
            focus (intro w hSw; (try dsimp only at hSw); go_simp; (try with_reducible rfl))
            (repeat (first | simp only [Act.put] | simp only [List.setIfInBounds_toArray] | simp only [List.set_cons_zero] | simp only [List.set_cons_succ]))
            refine AnyL.takeD (i := 7) (d := some 130) (v := ?_) rfl rfl (by kernel_rfl) (by kernel_rfl) (fun _ _ _ h => h) (by kernel_rfl) (by kernel_rfl) (by kernel_rfl) (Or.inl ⟨by rfl, ?_⟩) hHeld ?_
            rotate_left 1
            focus (intro w hSw; (try dsimp only at hSw); go_simp; (try with_reducible rfl))
            (repeat (first | simp only [Act.put] | simp only [List.setIfInBounds_toArray] | simp only [List.set_cons_zero] | simp only [List.set_cons_succ]))
            refine AnyL.takeD (i := 8) (d := some 131) (v := ?_) rfl rfl (by kernel_rfl) (by kernel_rfl) (fun _ _ _ h => h) (by kernel_rfl) (by kernel_rfl) (by kernel_rfl) (Or.inl ⟨by rfl, ?_⟩) hHeld ?_
            rotate_left 1
            focus (intro w hSw; (try dsimp only at hSw); go_simp; (try with_reducible rfl))
            (repeat (first | simp only [Act.put] | simp only [List.setIfInBounds_toArray] | simp only [List.set_cons_zero] | simp only [List.set_cons_succ]))
            refine AnyL.takeD (i := 9) (d := some 132) (v := ?_) rfl rfl (by kernel_rfl) (by kernel_rfl) (fun _ _ _ h => h) (by kernel_rfl) (by kernel_rfl) (by kernel_rfl) (Or.inl ⟨by rfl, ?_⟩) hHeld ?_
            rotate_left 1
            focus (intro w hSw; (try dsimp only at hSw); obtain ⟨hw1, hw2, hw3, hw4⟩ := HW.out; go_simp; (try with_reducible rfl))
            (repeat (first | simp only [Act.put] | simp only [List.setIfInBounds_toArray] | simp only [List.set_cons_zero] | simp only [List.set_cons_succ]))
            refine AnyL.takeD (i := 10) (d := some 133) (v := ?_) rfl rfl (by kernel_rfl) (by kernel_rfl) (fun _ _ _ h => h) (by kernel_rfl) (by kernel_rfl) (by kernel_rfl) (Or.inl ⟨by rfl, ?_⟩) hHeld ?_
            rotate_left 1
            focus (intro w hSw; (try dsimp only at hSw); go_simp; (try with_reducible rfl))
            (repeat (first | simp only [Act.put] | simp only [List.setIfInBounds_toArray] | simp only [List.set_cons_zero] | simp only [List.set_cons_succ]))
            refine AnyL.takeD (i := 11) (d := some 134) (v := ?_) rfl rfl (by kernel_rfl) (by kernel_rfl) (fun _ _ _ h => h) (by kernel_rfl) (by kernel_rfl) (by kernel_rfl) (Or.inl ⟨by rfl, ?_⟩) hHeld ?_
            rotate_left 1
            focus (intro w hSw; (try dsimp only at hSw); obtain ⟨hw1, hw2, hw3, hw4⟩ := HW.out; go_simp; (try with_reducible rfl))
            (repeat (first | simp only [Act.put] | simp only [List.setIfInBounds_toArray] | simp only [List.set_cons_zero] | simp only [List.set_cons_succ]))
            refine AnyL.takeD (i := 12) (d := some 135) (v := ?_) rfl rfl (by kernel_rfl) (by kernel_rfl) (fun _ _ _ h => h) (by kernel_rfl) (by kernel_rfl) (by kernel_rfl) (Or.inl ⟨by rfl, ?_⟩) hHeld ?_
            rotate_left 1
            focus (intro w hSw; (try dsimp only at hSw); obtain ⟨hw1, hw2, hw3, hw4⟩ := HW.out; go_simp; (try with_reducible rfl))
            (repeat (first | simp only [Act.put] | simp only [List.setIfInBounds_toArray] | simp only [List.set_cons_zero] | simp only [List.set_cons_succ]))
            refine AnyL.takeD (i := 13) (d := some 136) (v := ?_) rfl rfl (by kernel_rfl) (by kernel_rfl) (fun _ _ _ h => h) (by kernel_rfl) (by kernel_rfl) (by kernel_rfl) (Or.inl ⟨by rfl, ?_⟩) hHeld ?_
            rotate_left 1
            focus (intro w hSw; (try dsimp only at hSw); obtain ⟨ca, cx⟩ := hSw; go_simp; (try with_reducible rfl))
            (repeat (first | simp only [Act.put] | simp only [List.setIfInBounds_toArray] | simp only [List.set_cons_zero] | simp only [List.set_cons_succ]))
            refine AnyL.takeD (i := 14) (d := some 137) (v := ?_) rfl rfl (by kernel_rfl) (by kernel_rfl) (fun _ _ _ h => h) (by kernel_rfl) (by kernel_rfl) (by kernel_rfl) (Or.inl ⟨by rfl, ?_⟩) hHeld ?_
            rotate_left 1
            focus (intro w hSw; (try dsimp only at hSw); obtain ⟨hyq, hyq2⟩ := HYQ.out; go_simp; (try with_reducible rfl))
            (repeat (first | simp only [Act.put] | simp only [List.setIfInBounds_toArray] | simp only [List.set_cons_zero] | simp only [List.set_cons_succ]))
            refine AnyL.one (i := 15) (by kernel_rfl) rfl (fun K hK => ?_)
            go_simp
            refine nameG (w := wr.drew.alloc (.cells #[.int .u64 (y : Int)] 23)) (p := fun W => K _ W) fun w7 h7 => ?_
            obtain ⟨gn, hgn⟩ : ∃ g, g = wr.heap.size := ⟨_, rfl⟩
            have HB7 : Hid (Below wr.heap.size wr w7) := Lib.hid (by rw [h7.out]; exact Below.alloc (Below.drew (Below.refl wr.heap.size wr)) (Below.drew (Below.refl wr.heap.size wr)).size _)
            have HN7 : Hid (w7.heap[gn]? = some (.cells #[.int .u64 (y : Int)] 23 (0, 0))) := Lib.hid (by rw [h7.out, hgn]; exact heap_alloc_new _ _)
            rw [← hgn]
            clear h7 hgn
            refine hK.out _ _ (fun _ => HCA.out w7 HB7.out) (fun hHeld => ?_)
            replace hHeld := hHeld (by kernel_rfl)
            clear hK K
            (repeat (first | simp only [Act.put] | simp only [List.setIfInBounds_toArray] | simp only [List.set_cons_zero] | simp only [List.set_cons_succ]))
            refine AnyL.one (i := 16) (by kernel_rfl) rfl (fun K hK => ?_)
            obtain ⟨ii, hii, hz0, hz1, hz2⟩ := info_parts Try.infoU64c
            have hob := (HCF.out.below HB7.out).own i hlt
            rw [← HXI.out, hfl] at hob
            have HF9 := Lib.hid (show ((F i).map u64v).length = j by rw [List.length_map]; exact hfl)
            have hs7 := HB7.out.size
            refine step_append_cells _ rfl (.tmp 128) (.tmp 138) 35 rfl (gc + 1) 23 ii _ 1 8 Try.underlying35 hii hz0 hz1 hz2 rfl (by decide) Xi j ((F i).map u64v) rfl hob (some ⟨gn, 0, none⟩) 1 1 [u64v y] rfl rfl (fun _ => ⟨_, rfl, fun q u hq => ?_⟩) (by simp [Value.oneCell', u64v]) (by unfold maxLen; omega) (by omega) (by have := HGG.out; omega) ?_
            · rw [addr_add, Nat.zero_add]
              exact cell_of HN7.out (by simpa [u64v] using hq)
            intro V9 w6 hown hg hown2
            obtain ⟨A6, c6, rfl⟩ := own_sl hown
            obtain ⟨csq, tq, hq1, -⟩ := HCF.out.box
            have hne6 : ∀ q, q ≤ gc → some q ≠ Xi.ownBlock := fun q hq e => by have := (own_lt hob q e.symm).1; omega
            have hg6 := (hg.block gc (by have := HGG.out; omega) (hne6 gc (Nat.le_refl _))).trans ((HB7.out.block gc HGG.out).trans hq1)
            have hs6 : w6.cell? ⟨gc, i, none⟩ = some Xi ∧ w6.cell? ⟨xg, xo + ij, none⟩ = some (.int .u64 (sx : Int)) :=
              ⟨(World.cell?_of_block (w := w7) (a := ⟨gc, i, none⟩) (hg.block gc (by have := HGG.out; omega) (hne6 gc (Nat.le_refl _)))).trans (HCA.out w7 HB7.out).1, (World.cell?_of_block (w := w7) (a := ⟨xg, xo + ij, none⟩) (hg.block xg (by have := HGG.out; have := HXG.out; omega) (hne6 xg (by have := HXG.out; omega)))).trans (HCA.out w7 HB7.out).2⟩
            have HS6 := Lib.hid hs6
            have HG6 := Lib.hid hg6
            have HCF5 := Lib.hid (CfW.push HCF.out hlt HB7.out (by rw [hfl]; exact hown) (by rw [← HXI.out]; exact hg) (by rw [← HXI.out]; exact hown2))
            have HB6 := Lib.hid (show Below W4.heap.size W4 (w6.setCell ⟨gc, i, none⟩ (.slice A6 (j + 1) c6)) from Below.setCell (Below.grown (HB.out.trans (HB7.out.mono HB.out.size)) hg (by have := HB.out.size; omega) (fun q e => by have := (own_lt hob q e).1; have := HGC.out; omega)) (by show W4.heap.size ≤ gc; rw [HGC.out]; exact Nat.le_refl _) _)
            clear hown hg hown2 hz0 hz1 hz2 hii ii hob hq1 hne6 hg6 hs6
            refine hK.out _ _ (fun _ => HS6.out) (fun hHeld => ?_)
            replace hHeld := hHeld (by kernel_rfl)
            clear hK K
            (repeat (first | simp only [Act.put] | simp only [List.setIfInBounds_toArray] | simp only [List.set_cons_zero] | simp only [List.set_cons_succ]))
            refine AnyL.takeD (i := 17) (d := some 140) (v := ?_) rfl rfl (by kernel_rfl) (by kernel_rfl) (fun _ _ _ h => h) (by kernel_rfl) (by kernel_rfl) (by kernel_rfl) (Or.inl ⟨by rfl, ?_⟩) hHeld ?_
            rotate_left 1
            focus (intro w hSw; (try dsimp only at hSw); go_simp; (try with_reducible rfl))
            (repeat (first | simp only [Act.put] | simp only [List.setIfInBounds_toArray] | simp only [List.set_cons_zero] | simp only [List.set_cons_succ]))
            refine AnyL.one (i := 18) (by kernel_rfl) rfl (fun K hK => ?_)
            have y3 := HS6.out.1
            have fy3 : w6.frozen? ⟨gc, i, none⟩ = false := by simp [World.frozen?, HG6.out]
            go_simp
            refine nameG (w := w6.setCell ⟨gc, i, none⟩ (.slice A6 (j + 1) c6)) (p := fun W => K _ W) fun w5 hw5 => ?_
            rw [← hw5.out] at HCF5 HB6
            have HF5 := Lib.hid (show ∀ r, r < n → updW F i (F i ++ [y]) r = if r < i then gF xs T r T else if r = i then gF xs T i (j + 1) else [] from fun r hr => by
              by_cases e : r = i
              · subst e
                rw [updW_same, if_neg (by omega), if_pos rfl, gF_succ, HF.out r hr, if_neg (by omega), if_pos rfl, HY.out]
              · rw [updW_other e, HF.out r hr, if_neg e, if_neg e])
            clear y3 fy3 hw5
            refine hK.out _ _ (fun h => nomatch (show true = false from h)) (fun _ => ?_)
            clear hK K
            (try dsimp only)
            refine AnyL.done (by kernel_rfl) ?_
            clear HYQ HCA HCF HF HB HW
            go_wp2_with fail
            go_roundw
            case rel =>
              refine ⟨.int .i64 ((j : Int) + 1), .int .i64 (j : Int), .int .i64 (T : Int), .bool true, .int .i64 (j : Int), .int .i64 ((j : Int) + 1), .slice (some ⟨gc, 0, none⟩) n n, .int .i64 (i : Int), .slice (some ⟨gc, 0, none⟩) n n, .int .i64 (i : Int), .pointer (some ⟨gc, i, none⟩), Xi, .slice (some ⟨xg, xo, none⟩) xl uc, .int .i64 (i : Int), .int .i64 (T : Int), .int .i64 (it : Int), .int .i64 (j : Int), .int .i64 (ij : Int), .pointer (some ⟨xg, xo + ij, none⟩), .int .u64 (sx : Int), .int .u64 (y : Int), .slice (some ⟨gn, 0, none⟩) 1 1, .slice A6 (j + 1) c6, .pointer (some ⟨gc, i, none⟩), ⟨j + 1, updW X i (.slice A6 (j + 1) c6), updW F i (F i ++ [y]), by omega, by go_num, HCF5, HF5, HB6⟩, ?_⟩
              obtain ⟨q1, q2, q3⟩ := HQ.out
              simp only [q1, q2, q3, Bool.or_false]
            case measure => simp [intOf]; omega
          · obtain rfl : j = T := by omega
            have hj1 : ¬ (j : Int) < (j : Int) := by omega
            go_wp2_with fail
            go_roundw
            case rel => exact ⟨i + 1, X, F, by omega, by go_num, HCF, Lib.hid (fun r hr => by
              rw [HF.out r hr]
              by_cases e1 : r < i
              · rw [if_pos e1, if_pos (by omega)]
              · rw [if_neg e1]
                by_cases e2 : r = i
                · subst e2; rw [if_pos rfl, if_pos (by omega)]
                · rw [if_neg e2, if_neg (by omega)]), HB⟩
            case measure => simp [intOf]; omega
    · as_aux_lemma =>
        obtain rfl : i = n := by omega
        have hi1 : ¬ (i : Int) < (i : Int) := by omega
        obtain ⟨n, hn⟩ : ∃ n, n = i := ⟨_, rfl⟩
        subst hn
        have HFT := Lib.hid (show ∀ r, r < n → F r = gF xs T r T from fun r hr => by rw [HF.out r hr, if_pos hr])
        obtain ⟨csa, hmka, hmra⟩ := makeBos n (by omega)
        obtain ⟨csm, hmkm, hmrm⟩ := makeBou N (by omega)
        clear HF hlt hi
        go_upto_region 18 with fail
        refine nameC fun W6 hW6 => ?_
        have hb6 : Below wr.heap.size wr W6 := by rw [hW6.out]; exact (Below.refl _ _).alloc (Nat.le_refl _) _
        have hr6 : W6.rowIs wr.heap.size 4 n (fun _ => .bool false) := by rw [hW6.out]; exact hmra wr
        have hz6 : W6.heap.size = wr.heap.size + 1 := by rw [hW6.out]; simp
        obtain ⟨ga, hga⟩ : ∃ g, g = wr.heap.size := ⟨_, rfl⟩
        rw [← hga] at hr6 ⊢
        have HR6 := Lib.hid hr6
        have HB6 := Lib.hid hb6
        have HGA := Lib.hid (And.intro hga hz6)
        clear hW6 hb6 hr6 hz6 hga hmka hmra csa
        go_upto_region 19 with fail
        refine nameC fun W7 hW7 => ?_
        have hb7 : Below W6.heap.size W6 W7 := by rw [hW7.out]; exact (Below.refl _ _).alloc (Nat.le_refl _) _
        have hr7 : W7.rowIs W6.heap.size 4 N (fun _ => .bool false) := by rw [hW7.out]; exact hmrm W6
        obtain ⟨gm, hgm⟩ : ∃ g, g = W6.heap.size := ⟨_, rfl⟩
        rw [← hgm] at hr7 ⊢
        have HB7 := Lib.hid (HB6.out.trans (hb7.mono HB6.out.size))
        have hlF : (F h).length = T := by rw [HFT.out h hhn, gF_len]
        obtain ⟨bh, x0, hbh, HTS0⟩ := TS.start (w := W7) (d := d) (dv := #[.slice A1 l1 c1, .slice A2 l2 c2, .slice A3 l3 c3]) (gd := gd) (gc := gc) (ga := ga) (gm := gm) (base := gc + 1) (g0 := wr.heap.size) (cl := pots d) (cv := .slice cA n cc) (sv := .slice sA bl sc) (bs := bs) (n := n) (T := T) (N := N) (h := h) (X := X) (F := F)
          ((HB7.out.block gd (by have := HCF.out.glt; have := lt_heap K4.out; have := HGC.out; omega)).trans ((HB.out.block gd (lt_heap K4.out)).trans K4.out))
          (IsDraw.keep (IsDrawL (M' := fun q => q < gc) HD.out fun q hq _ => by rw [HGC.out]; exact Nat.lt_of_lt_of_le hq HB4.out.size) fun p _ hl => ((HB4.out.trans (HB.out.mono HB4.out.size)).trans (HB7.out.mono (HB4.out.trans (HB.out.mono HB4.out.size)).size)).cell hl)
          (IsSl.mono (IsSl.below (IsSl.mono (M' := fun q => q < gc) HCV.out (fun q hq _ => by rw [HGC.out]; exact hq) (by omega)) (HB.out.trans (HB7.out.mono HB.out.size))) (fun q _ hq => hq) (by omega))
          (IsSl.below (IsSl.mono (M' := fun q => q < gc) HBO.out (fun q hq _ => by rw [HGC.out]; exact Nat.lt_of_lt_of_le hq HB4.out.size) (by omega)) ((HB4.out.trans (HB.out.mono HB4.out.size)).trans (HB7.out.mono (HB4.out.trans (HB.out.mono HB4.out.size)).size)))
          (HCF.out.below HB7.out) (HR6.out.of_block (hb7.block ga (by have := HGA.out; omega))) hr7
          (by rw [HGC.out]; exact lt_heap K4.out) (by rw [HGA.out.1]; exact Nat.le_refl _) (by have := HGA.out; omega) (fun r hr b e => (own_lt (HCF.out.own r hr) b e).2) HCF.out.glt hhn hlF hT0 (by omega)
        have HTS := Lib.hid HTS0
        have HBW : Hid (Below w.heap.size w W7) := Lib.hid ((HB4.out.trans (HB.out.mono HB4.out.size)).trans (HB7.out.mono (HB4.out.trans (HB.out.mono HB4.out.size)).size))
        have hwbh : w.heap.size ≤ bh := by have := HB4.out.size; have := HGC.out; omega
        have hwgm : w.heap.size ≤ gm := by have := HB4.out.size; have := HB.out.size; have := HGA.out; omega
        have HPF := Lib.hid (show ∀ r, r < (pots d).length → (F r).length = T ∧ ∀ y ∈ F r, y < 1152921504606845789 from fun r hr => by
          rw [HFT.out r (by rw [HN.out]; exact hr)]
          exact ⟨gF_len, gF_lt⟩)
        obtain ⟨S0, hS0⟩ : ∃ z, z = wantTo N (psT n h F 0) n := ⟨_, rfl⟩
        have HS0 := Lib.hid hS0
        clear hW7 hb7 hr7 hgm HTS0 hS0 hlF hbh HB7 HB6 HR6 HGA HB HCF K4 HB4 HCV HD HX hmkm hmrm csm HFT
        go_wp2_with fail
        go_loopw [19] (fun s19 wr => ∃ (k x0 : Nat) (mt : Nat → Bool), k ≤ N ∧ s19 = .int .u64 (k : Int) ∧ Hid (TS wr d #[.slice A1 l1 c1, .slice A2 l2 c2, .slice A3 l3 c3] gd gc ga gm bh (pots d) (.slice cA n cc) (.slice sA bl sc) bs n T N h X F x0 mt) ∧ Hid (∀ i, i < N → (mt i = true ↔ ∃ m, m < k ∧ i = (S0 + m) % N)) ∧ Hid (Below w.heap.size w wr)) (fun s19 _ => N - (intOf s19).toNat)
        case atStart => exact ⟨0, x0, _, Nat.zero_le _, rfl, HTS, Lib.hid (fun i _ => ⟨fun e => (by cases e), fun ⟨m, hm, _⟩ => absurd hm (by omega)⟩), HBW⟩
        case round =>
          clear HTS HBW
          obtain ⟨k, x0, mt, hk, rfl, HTS, HM, HB⟩ := hrel
          by_cases hlt : k < N
          case neg =>
            obtain rfl : k = N := by omega
            have hk1 : ¬ (k : Int) < (k : Int) := by omega
            clear hlt hk
            go_wp2_with fail
            go_ret
            exact ⟨rfl, HB.out⟩
          have hk1 : (k : Int) < (N : Int) := by omega
          obtain ⟨ch, hX, -, -⟩ := HTS.out.hon
          obtain ⟨cs, tq, o1, o2⟩ := HTS.out.out
          obtain ⟨cur, t2, r1, r2⟩ := HTS.out.hrow
          have ca := cell_of o1 (o2 h hhn)
          rw [hX] at ca
          have cb := cell_of r1 (r2 0 hT0)
          have fb : wr.frozen? ⟨bh, 0, none⟩ = false := by simp [World.frozen?, r1]
          have hh1 : (h : Int) < (n : Int) := by omega
          have hh0 : (0 : Int) ≤ (h : Int) := by omega
          have hT1 : (0 : Int) < (T : Int) := by omega
          clear hX o1 o2 r1 r2
          go_upto_region 23 with fail
          refine nameC fun W8 hW8 => ?_
          have HT8 := Lib.hid (TS.setH HTS.out k)
          have HB8 := Lib.hid (show Below w.heap.size w (wr.setCell ⟨bh, 0, none⟩ (.int .u64 (k : Int))) from Below.setCell HB.out hwbh _)
          rw [← hW8.out] at HT8 HB8
          clear hW8 ca cb fb HTS HB
          have HPO := Lib.hid (show Po (pots d) (T : Int) N (psT n h F k) by
            rw [HN.out]
            exact psT_po HNW.out HPF.out (by rw [← HN.out]; exact hhn) (Nat.lt_of_lt_of_le hlt (Nat.le_trans e3 (by decide))))
          obtain ⟨x, hx⟩ : ∃ z, z = wantTo N (psT n h F k) (pots d).length := ⟨_, rfl⟩
          have HXE := Lib.hid (show x = (S0 + k) % N by rw [hx, ← HN.out, HS0.out]; exact want_round k (by omega) hhn)
          have hxN : x < N := by rw [HXE.out]; exact Nat.mod_lt _ (by omega)
          have DR := Lib.hid (drawn_any W8 _ _ _ _ _ _ (pots d) (T : Int) N (psT n h F k) bs HT8.out.cls (HT8.out.pol (by omega)) HT8.out.sil (by rw [← HN.out, ← HL.out.2.2.2.2]; exact e10) HPO.out)
          rw [← hx] at DR
          go_wp2_with fail
          refine DR.out.mono ?_
          rintro e W9 ⟨rfl, hb⟩
          have HT9 := Lib.hid (HT8.out.below hb)
          have HB9 := Lib.hid (HB8.out.trans (hb.mono HB8.out.size))
          clear hb DR HT8 HB8
          have DR := Lib.hid (drawn_any W9 _ _ _ _ _ _ (pots d) (T : Int) N (psT n h F k) (List.replicate n false) HT9.out.cls (HT9.out.pol (by omega)) HT9.out.all (by rw [List.length_replicate, HN.out]; exact Nat.le_refl _) HPO.out)
          rw [← hx] at DR
          clear hx
          go_wp2_with fail
          refine DR.out.mono ?_
          rintro e W10 ⟨rfl, hb⟩
          have HT10 := Lib.hid (HT9.out.below hb)
          have HB10 := Lib.hid (HB9.out.trans (hb.mono HB9.out.size))
          clear hb DR HT9 HB9 HPO
          have tx : ((x : Int) != (x : Int)) = false := by simp
          have tN : ¬ (N : Int) ≤ (x : Int) := by omega
          obtain ⟨l, hl1, hl2⟩ := Dw.outcome_has HCK.out.1 (show x < _ by rw [← HCK.out.2]; exact hxN)
          have HNL := Lib.hid hl2
          have DO := Lib.hid (Dw.outcome_any W10 _ _ d HT10.out.dr x)
          rw [hl1] at DO
          clear hl1 hl2
          have c0 := cell_of (j := 0) HT10.out.box rfl
          have c1_ := cell_of (j := 1) HT10.out.box rfl
          have c2_ := cell_of (j := 2) HT10.out.box rfl
          go_wp2_with fail
          refine DO.out.mono ?_
          rintro e W11 ⟨lv, rfl, hlv, hb⟩
          have HT11 := Lib.hid (HT10.out.below hb)
          have HB11 := Lib.hid (HB10.out.trans (hb.mono HB10.out.size))
          have DNM := Lib.hid (Dw.number_any W11 TT _ lv d l (IsDrawM HT11.out.dr (fun _ _ => trivial)) (IsSl.mono hlv (fun _ _ _ => trivial) (by omega)))
          (try dsimp only at DNM)
          rw [HNL.out] at DNM
          clear hb DO HT10 HB10 hlv c0 c1_ c2_ HNL
          have c0 := cell_of (j := 0) HT11.out.box rfl
          have c1_ := cell_of (j := 1) HT11.out.box rfl
          have c2_ := cell_of (j := 2) HT11.out.box rfl
          go_wp2_with fail
          refine DNM.out.mono ?_
          rintro e W12 ⟨rfl, hb⟩
          have HT12 := Lib.hid (HT11.out.below hb)
          have HB12 := Lib.hid (HB11.out.trans (hb.mono HB11.out.size))
          clear hb DNM HT11 HB11 c0 c1_ c2_
          have hmx : mt x = false := by
            cases hm : mt x with
            | false => rfl
            | true =>
              obtain ⟨m, h1, h2⟩ := (HM.out x hxN).1 hm
              rw [HXE.out] at h2
              exact absurd h2.symm (mod_ne h1 hlt)
          obtain ⟨cm, m1, m2⟩ := HT12.out.met
          have cm0 := cell_of m1 (m2 x hxN)
          rw [hmx] at cm0
          have fm0 : W12.frozen? ⟨gm, x, none⟩ = false := by simp [World.frozen?, m1]
          have hx1 : (x : Int) < (N : Int) := by omega
          have hx0 : (0 : Int) ≤ (x : Int) := by omega
          have hkw : IntKind.u64.wrap ((k : Int) + 1) = ((k + 1 : Nat) : Int) := by simp [IntKind.wrap, IntKind.signed, IntKind.bits]; omega
          clear hmx m1 m2
          go_upto_region 21 with fail
          refine nameC fun W13 hW13 => ?_
          have HT13 := Lib.hid (TS.setM HT12.out hxN)
          have HB13 := Lib.hid (show Below w.heap.size w (W12.setCell ⟨gm, x, none⟩ (.bool true)) from Below.setCell HB12.out hwgm _)
          rw [← hW13.out] at HT13 HB13
          have HM2 := Lib.hid (show ∀ i, i < N → (updW mt x true i = true ↔ ∃ m, m < k + 1 ∧ i = (S0 + m) % N) from fun i hi => by
            by_cases e : i = x
            · subst e
              rw [updW_same]
              exact ⟨fun _ => ⟨k, by omega, HXE.out⟩, fun _ => rfl⟩
            · rw [updW_other e, HM.out i hi]
              constructor
              · rintro ⟨m, h1, h2⟩; exact ⟨m, by omega, h2⟩
              · rintro ⟨m, h1, h2⟩
                rcases Nat.lt_or_ge m k with q | q
                · exact ⟨m, q, h2⟩
                · obtain rfl : m = k := by omega
                  exact absurd (h2.trans HXE.out.symm) e)
          clear hW13 cm0 fm0 HT12 HB12
          go_wp2_with fail
          go_roundw
          case rel => exact ⟨k + 1, k, updW mt x true, by omega, by first | rfl | (rw [hkw]) | simp, HT13, HM2, HB13⟩
          case measure => simp [intOf]; omega
end Go.Proofs.Ytgaanndidcdbpaa
