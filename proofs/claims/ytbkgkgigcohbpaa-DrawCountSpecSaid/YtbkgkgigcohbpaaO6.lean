import Derived.Test.YtbkgkgigcohbpaaO5
namespace Go.Proofs.Ytbkgkgigcohbpaa
open Go.RowKit
theorem RowsW.set_other {w : World} {base b : Nat} {v : Value} {rows : List (List Int)} {cs : Array Value} {t : TypeId} {z : Nat × Nat} (h : RowsW w base v rows) (hb : w.heap[b]? = some (.cells cs t z)) (h1 : t ≠ 3) (h2 : t ≠ 22) (j : Nat) (u : Value) : RowsW (w.setCell ⟨b, j, none⟩ u) base v rows := by
  obtain ⟨vals, k1, k2⟩ := h.ex
  refine ⟨vals, TabW.own_set_b k1 (fun e => ?_) _ _, fun r hr => ?_⟩
  · rcases k1.2 with ⟨rfl, -⟩ | ⟨g, cap, cur, rfl, -, hg, -⟩
    · simp [Value.ownBlock] at e
    · have e' : g = b := by simpa [Value.ownBlock] using e
      rw [e', hb] at hg
      injection hg with hg
      injection hg with _ h4
      exact h2 h4
  · obtain ⟨q, e, hq⟩ := k2 r hr
    refine ⟨q, e, hq.keep fun b' ⟨cs', z', hb'⟩ => Below.heap_setCell _ _ _ _ fun e2 => ?_⟩
    have e2 : b' = b := e2
    rw [e2, hb] at hb'
    injection hb' with hb'
    injection hb' with _ h4
    exact h1 h4
set_option maxHeartbeats 4000000 in
set_option maxRecDepth 8000 in
theorem refChances_any (w : World) (M : Nat → Prop) (v : Value) (d : DrawD) (h : IsDraw w M v d) (h6 : nD d ≤ 6) :
    Calls Try.prog 14 #[v] w (TabE w (chancesD d)) := by
  have CK := fun W (hB : Below w.heap.size w W) => Lib.hid (refCheck_any W M v d (h.below hB))
  have HD := Lib.hid h
  obtain ⟨v1, v2, v3, rfl, -, -, -⟩ := h
  go_enter Try.func14, Try.ntmps14
  go_wp2_with fail
  refine nameW fun W1 hW1 => ?_
  have hB1 : Below w.heap.size w W1 := by rw [hW1.out]; exact (Below.refl w.heap.size w).alloc (Nat.le_refl _) _
  have hb1 : W1.heap[w.heap.size]? = some (.cells #[v1, v2, v3] 25 (0, 0)) := by rw [hW1.out, heap_alloc_if, if_pos rfl]
  refine (CK W1 hB1).out.mono ?_
  rintro e W2 ⟨rfl, hB2⟩
  have hb2 := (hB2.block w.heap.size (lt_heap hb1)).trans hb1
  have HB := Lib.hid (hB1.trans (hB2.mono hB1.size))
  have hx0 := cell_of (j := 0) hb2 rfl
  have hx1 := cell_of (j := 1) hb2 rfl
  have hx2 := cell_of (j := 2) hb2 rfl
  have HBX := Lib.hid hb2
  clear hB1 hB2 hW1 hb1 hb2 CK
  cases hc : checkB d
  · have HC := Lib.hid (chancesD_bad hc)
    rw [checkD_no hc]
    go_wp2_with fail
    go_ret2
    exact ⟨.slice none 0 0, by rw [HC.out]; rfl, by rw [HC.out]; exact IsTab.nil, HB.out⟩
  · rw [checkD_yes hc]
    have HC := Lib.hid hc
    clear hc
    have HCD := Lib.hid (chancesD_yes HC.out)
    obtain ⟨_, _, _, e0, p1, p2, -⟩ := id HD.out
    cases e0
    obtain ⟨A1, q1, rfl, -⟩ := p1
    obtain ⟨A2, q2, rfl, -⟩ := p2
    obtain ⟨n, hn⟩ : ∃ n, n = nD d := ⟨_, rfl⟩
    have hn1 : d.first.length = n := hn.symm
    have hn2 : d.second.length = n := by rw [hn]; exact (checkB_len HC.out).2.2.1.symm
    have hn16 : n ≤ 16 := hn ▸ (checkB_len HC.out).2.1
    rw [hn1, hn2] at hx0 hx1 HD
    rw [hn1, hn2]
    have hbx : W2.heap[w.heap.size]? = some (.cells #[.slice A1 d.first.length q1, .slice A2 d.second.length q2, v3] 25 (0, 0)) := HBX.out
    rw [hn1, hn2] at hbx
    have HX2 := Lib.hid hbx
    have HN := Lib.hid (And.intro hn (And.intro hn1 hn2))
    clear hn hn1 hn2 hbx
    obtain ⟨ir, hir, hz0, hz1, hz2⟩ := info_parts Try.info_row
    have HIR := Lib.hid (And.intro hir (And.intro hz0 (And.intro hz1 hz2)))
    clear hir hz0 hz1 hz2
    have hwW : w.heap.size < W2.heap.size := lt_heap HX2.out
    go_wp2_with fail
    go_loopw [5, 18] (fun q5 q18 wr => ∃ (k : Nat) (B : Nat → Nat), k ≤ n ∧ q18 = .int .i64 (k : Int) ∧ Hid (TabW wr W2.heap.size 37 28 q5 k n B (fun _ _ => 0)) ∧ Hid (Below W2.heap.size W2 wr)) (fun _ q _ => n - (intOf q).toNat)
    case atStart =>
      exact ⟨0, fun _ => 0, Nat.zero_le _, rfl, Lib.hid ⟨own_empty (by rw [heap_alloc_if, if_pos rfl]) (Nat.le_refl _), fun _ h => absurd h (by omega), fun _ h => absurd h (by omega), fun _ _ h => absurd h (by omega), fun _ h => absurd h (by omega)⟩, Lib.hid ((Below.refl _ _).alloc (Nat.le_refl _) _)⟩
    case round =>
      obtain ⟨k, B, hk, rfl, HT, HBW⟩ := hrel
      have hby := (HBW.out.block w.heap.size hwW).trans HX2.out
      clear hx0 hx1 hx2
      have hx0 := cell_of (j := 0) hby rfl
      have hx1 := cell_of (j := 1) hby rfl
      have hx2 := cell_of (j := 2) hby rfl
      by_cases hkn : k < n
      · have hkk : (k : Int) < (n : Int) := by omega
        obtain ⟨mk, hmk, hmk2⟩ := make_n n (by omega)
        have HM2 := Lib.hid hmk2
        have hbm : Below wr.heap.size wr (mk wr) := by rw [hmk2]; exact (Below.refl _ _).alloc (Nat.le_refl _) _
        have hszm : (mk wr).heap.size = wr.heap.size + 1 := by rw [hmk2, World.size_alloc]
        have HOW := Lib.hid (HT.out.below hbm).own
        have HBM := Lib.hid hbm
        have hszw := HBW.out.size
        have HSZ := Lib.hid hszm
        clear hmk2 hbm hszm
        go_wp2_with (at_builtin; refine wpList_append_cells _ rfl _ _ 32 rfl W2.heap.size 37 ir (.slice none 0 0) 1 24 Try.underlying32 HIR.out.1 HIR.out.2.1 HIR.out.2.2.1 HIR.out.2.2.2 rfl (by decide) _ k _ rfl (HOW.out.alloc _) (some ⟨(mk wr).heap.size, 0, none⟩) 1 1 [.slice (some ⟨wr.heap.size, 0, none⟩) n n] rfl rfl (fun _ => ⟨_, rfl, cell_one_new _ _ _⟩) (by intro u hu; simp at hu; subst hu; rfl) (by unfold maxLen; omega) (by omega) (by have := HSZ.out; simp; omega) ?_)
        intro v7 w7 hown7 hgrow7 _
        have hTW := HT.out.push (T' := fun _ _ => 0) (by decide) (Nat.le_refl _) hgrow7 (HBM.out.alloc (by have := HSZ.out; omega) _) (by
          have := World.rowIs_made wr (.int .u64 0) n 28
          rw [← HM2.out] at this
          exact this.alloc _) hown7 hszw (fun _ _ _ => rfl)
        have HTW := Lib.hid hTW
        have HB7 := Lib.hid ((HBW.out.trans ((HBM.out.alloc (by have := HSZ.out; omega) (.cells #[.slice (some ⟨wr.heap.size, 0, none⟩) n n] 37)).mono hszw)).grown hgrow7 (by have := HSZ.out; simp; omega) (own_base HOW.out))
        clear hTW hown7 hgrow7
        go_wp2_with fail
        go_roundw
        case rel => exact ⟨k + 1, _, by omega, by go_num, HTW, HB7⟩
        case measure => simp [intOf]; omega
      · have hkk : ¬ (k : Int) < (n : Int) := by omega
        obtain rfl : n = k := by omega
        go_wp2_with fail
        refine nameW fun W3 hW3 => ?_
        have hB3 : Below wr.heap.size wr W3 := by rw [hW3.out]; exact (Below.refl _ _).alloc (Nat.le_refl _) _
        have HB3 := Lib.hid (HBW.out.trans (hB3.mono HBW.out.size))
        have HBw3 := Lib.hid (HB.out.trans (HB3.out.mono HB.out.size))
        refine (outcomesD d HC.out h6 W3 M _ _ (HD.out.below HBw3.out)).mono ?_
        rintro e W4 ⟨v4, rfl, hR4, hB4⟩
        obtain ⟨A4, c4, rfl⟩ := hR4.sl
        have HTB := Lib.hid (HT.out.below (hB3.trans (hB4.mono hB3.size)))
        have HB4 := Lib.hid (HB3.out.trans (hB4.mono HB3.out.size))
        have HL := Lib.hid (show (rowsD d).length = Rn (mayD d) (nD d) 0 by rw [rowsD_len, outsD_len])
        have hle := Rn_le (may := mayD d) (n := nD d) 0 (by omega)
        obtain ⟨R, hR⟩ : ∃ R, R = Rn (mayD d) (nD d) 0 := ⟨_, rfl⟩
        rw [← hR] at hle HL
        have eR : Value.slice A4 (rowsD d).length c4 = Value.slice A4 R c4 := by rw [HL.out]
        rw [eR] at hR4 ⊢
        have HR4 := Lib.hid hR4
        have HRR := Lib.hid hR
        obtain ⟨bR, hbR⟩ : ∃ bR, bR = W3.heap.size := ⟨_, rfl⟩
        rw [← hbR] at HR4
        clear hW3 hB3 hB4 eR hR hR4 hbR hx0 hx1 hx2 HT HBW HB3 HBw3 hkn hk
        go_wp2_with fail
        go_loopw [7] (fun q wr => ∃ i : Nat, i ≤ R ∧ q = .int .i64 (i : Int) ∧ Hid (TabW wr W2.heap.size 37 28 u5 n n B (fun r c => cntTo d i 0 r c)) ∧ Hid (RowsW wr bR (.slice A4 R c4) (rowsD d)) ∧ Hid (Below W2.heap.size W2 wr)) (fun q _ => R - (intOf q).toNat)
        case atStart => exact ⟨0, Nat.zero_le _, rfl, Lib.hid ⟨HTB.out.own, HTB.out.ge, HTB.out.lt, HTB.out.inj, fun r hr => (HTB.out.row r hr).congr fun c _ => by rw [cntTo_zero]⟩, HR4, HB4⟩
        case round =>
          clear HTB HR4 HB4
          obtain ⟨i, hi, rfl, HTB, HR4, HB4⟩ := hrel
          by_cases hiR : i < R
          · have hii : (i : Int) < (R : Int) := by omega
            have hi0 : (0 : Int) ≤ (i : Int) := by omega
            have hil : i < (outsD d).length := by rw [outsD_len, ← HRR.out]; exact hiR
            have hxo := outsD_ok (List.getElem_mem hil)
            obtain ⟨x, hx⟩ : ∃ x, x = (outsD d).getD i [] := ⟨_, rfl⟩
            have hx2 : x = (outsD d)[i] := by rw [hx, List.getD_eq_getElem?_getD, List.getElem?_eq_getElem hil]; rfl
            rw [← hx2, ← HN.out.1] at hxo
            have HXO := Lib.hid hxo
            have HX := Lib.hid hx
            have HIL := Lib.hid hil
            clear hxo hx hx2 hil
            go_wp2_with fail
            go_loopw [8] (fun q wr => ∃ k : Nat, k ≤ n ∧ q = .int .i64 (k : Int) ∧ Hid (TabW wr W2.heap.size 37 28 u5 n n B (fun r c => cntTo d i k r c)) ∧ Hid (RowsW wr bR (.slice A4 R c4) (rowsD d)) ∧ Hid (Below W2.heap.size W2 wr)) (fun q _ => n - (intOf q).toNat)
            case atStart => exact ⟨0, Nat.zero_le _, rfl, HTB, HR4, HB4⟩
            case round =>
              clear HTB HR4 HB4
              obtain ⟨k, hk, rfl, HTB, HR4, HB4⟩ := hrel
              obtain ⟨b6, A6, c6, rfl, f6, hT6⟩ := HR4.out.at_ (Below.refl _ _) (show i < (rowsD d).length by rw [rowsD_len]; exact HIL.out)
              rw [rowsD_at HIL.out, ← HX.out] at f6 hT6
              have e6 : Value.slice A6 (ofN x).length c6 = Value.slice A6 n c6 := by rw [ofN_len, HXO.out.1]
              rw [e6] at f6 hT6
              by_cases hkn : k < n
              · have hkk : (k : Int) < (n : Int) := by omega
                have hk0 : (0 : Int) ≤ (k : Int) := by omega
                have hkx : k < x.length := by rw [HXO.out.1]; exact hkn
                obtain ⟨b7, o7, rfl, -, f7⟩ := hT6.at_ (Below.refl _ _) (show k < (ofN x).length by rw [ofN_len]; exact hkx)
                rw [nthI_ofN hkx] at f7
                have hcn : x[k] < n := (okL_at HXO.out.2 hkx).1
                have HST := Lib.hid (fun r c => cntTo_step (d := d) (i := i) (k := k) (c0 := x[k]) (by rw [← HX.out]; exact List.getElem?_eq_getElem hkx) r c)
                obtain ⟨c0, hc0⟩ : ∃ c0, c0 = x[k] := ⟨_, rfl⟩
                rw [← hc0] at f7 hcn HST
                have hrk := (HTB.out.row k hkn).cell hcn
                have hrf := (HTB.out.row k hkn).frozen c0
                have hbd := cntTo_le d i k k c0
                rw [← HRR.out] at hbd
                obtain ⟨T, hT⟩ : ∃ T, T = cntTo d i k k c0 := ⟨_, rfl⟩
                rw [← hT] at hrk hbd
                have HT := Lib.hid hT
                have hsum : IntKind.u64.wrap ((T : Int) + 1) = ((T + 1 : Nat) : Int) := by rw [IntKind.wrap_u64]; omega
                obtain ⟨o, cap, hu5, hoc⟩ := HTB.out.cellAt hkn
                subst hu5
                obtain ⟨b, hb⟩ : ∃ b, b = B k := ⟨_, rfl⟩
                rw [← hb] at hrk hrf hoc
                have HBI := Lib.hid hb
                have hc00 : (0 : Int) ≤ (c0 : Int) := by omega
                have hc01 : (c0 : Int) < (n : Int) := by omega
                have hb3 : W2.heap.size ≤ b := by rw [hb]; exact HTB.out.ge k hkn
                clear hT6 e6 hc0 hT hbd hb
                go_upto_region 16 with fail
                go_still_tail 15, (by kernel_rfl)
                change wpList _ _ _ _ _ wr.drew
                go_wp2_with fail
                have HT5 : Hid (TabW (wr.drew.setCell ⟨b, c0, none⟩ (.int .u64 ((T + 1 : Nat) : Int))) W2.heap.size 37 28 (.slice (some ⟨o, 0, none⟩) n cap) n n B (fun r c => cntTo d i (k + 1) r c)) := by
                  rw [HBI.out]
                  refine (HTB.out.below (Below.refl _ _).drew).set (by decide) hkn c0 (T + 1) fun r c _ _ => ?_
                  rw [HST.out r c]
                  by_cases e : r = k ∧ c = c0
                  · rw [if_pos e, if_pos e, e.1, e.2, HT.out]
                  · rw [if_neg e, if_neg e]
                have HR5 : Hid (RowsW (wr.drew.setCell ⟨b, c0, none⟩ (.int .u64 ((T + 1 : Nat) : Int))) bR (.slice (some ⟨b6, 0, none⟩) R c4) (rowsD d)) := by
                  obtain ⟨cs, hcs, -, -⟩ := HTB.out.row k hkn
                  rw [← HBI.out] at hcs
                  exact (HR4.out.below (Below.refl _ _).drew).set_other (t := 28) hcs (by decide) (by decide) _ _
                have HB5 := Lib.hid (HB4.out.drew.setCell (p := ⟨b, c0, none⟩) (by exact hb3) (.int .u64 ((T + 1 : Nat) : Int)))
                go_roundw
                case rel => exact ⟨k + 1, by omega, by go_num, HT5, HR5, HB5⟩
                case measure => simp [intOf]; omega
              · have hkk : ¬ (k : Int) < (n : Int) := by omega
                obtain rfl : n = k := by omega
                have HTN : Hid (TabW wr W2.heap.size 37 28 u5 n n B (fun r c => cntTo d (i + 1) 0 r c)) := ⟨HTB.out.own, HTB.out.ge, HTB.out.lt, HTB.out.inj, fun r hr => (HTB.out.row r hr).congr fun c _ => by rw [← cntTo_next HIL.out, HN.out.1]⟩
                clear hT6
                go_wp2_with fail
                go_roundw
                case rel => exact ⟨i + 1, by omega, by go_num, HTN, HR4, HB4⟩
                case measure => simp [intOf]; omega
          · have hii : ¬ (i : Int) < (R : Int) := by omega
            go_wp2_with fail
            go_ret2
            refine ⟨u5, by rw [HCD.out]; rfl, ?_, HB.out.trans (HB4.out.mono HB.out.size)⟩
            rw [HCD.out]
            have hiL : i = (outsD d).length := by rw [outsD_len, ← HRR.out]; omega
            have := HTB.out.isTab hn16 (Tn0 (mayD d) n) (fun r c hr => by rw [hiL, cntTo_all, HN.out.1])
            rw [HN.out.1] at this
            exact this.mono fun b _ hb => Nat.le_trans HB.out.size hb
end Go.Proofs.Ytbkgkgigcohbpaa
