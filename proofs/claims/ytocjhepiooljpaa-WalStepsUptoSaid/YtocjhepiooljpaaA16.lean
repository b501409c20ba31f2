/- The iterator of package wal over records. -/
import Derived.Test.YtocjhepiooljpaaA11
import Derived.Test.YtocjhepiooljpaaA12
import Derived.Test.YtocjhepiooljpaaB4
import Derived.WalkMore
namespace Go.Proofs.Ytocjhepiooljpaa
open Go.RowKit Go.Deep Go.Shelf

attribute [local go_sem] Oper.semAt_some

/-- a block of bytes -/
def U8 (w : World) (q : Nat) : Prop := ∃ cs z, w.heap[q]? = some (.cells cs 5 z)
/-- a yield: what the loop is told, and the bytes that it stands for -/
structure Yl where
  at_ : Nat
  val : Value
  bs : List UInt8
def encY (x : Yl) : Array Value := #[.int .i64 (x.at_ : Int), x.val]
def RY (lo : Nat) (pre : List Yl) (x : Yl) (w : World) : Prop := pre.length < 4096 ∧ IsBytes w (fun q => lo ≤ q ∧ U8 w q) x.val x.bs

theorem own_u8 {w : World} {base n₀ c : Nat} {A : Option Addr} {L : List UInt8} (h : OwnB w base (.slice A L.length c) L) (hb : n₀ ≤ base) : BytesC w (fun q => n₀ ≤ q ∧ U8 w q) A L := fun hn => by
  obtain ⟨b, off, e, hq, hc⟩ := own_src h hn
  refine ⟨b, off, e, ⟨Nat.le_trans hb hq, ?_⟩, hc⟩
  rcases h.2 with ⟨e2, hx⟩ | ⟨g, cap, cur, e2, hg, hgb, rest⟩
  · injection e2 with e2 e3; omega
  · injection e2 with e2 e3
    rw [e] at e2
    injection e2 with e2
    injection e2 with e2
    subst e2
    exact ⟨_, _, hgb⟩
set_option maxRecDepth 100000 in
set_option maxHeartbeats 4000000 in
theorem records1_in (nf : Nat) (y Bs n₀ : Nat) (M : Nat → Prop) (lb lo c : Nat) (l : List (List UInt8)) (hl : l.length ≤ 4096) (hs : Sized128 l) (hBM : M Bs) (J : List Yl → World → Prop)
    (hJb : ∀ pre A B, J pre A → Below A.heap.size A B → J pre B)
    (hY : ∀ pre x W, J pre W → RY n₀ pre x W → YieldAt Fence.wide (nf - 1) Try.prog y (encY x) W fun e W' => e = .returned (.bool true) ∧ J (pre ++ [x]) W' ∧ KM M W W')
    (W : World) (hn₀ : n₀ ≤ W.heap.size) (hM : ∀ k, M k → k < W.heap.size) (hBs : W.cell? ⟨Bs, 0, none⟩ = some (.slice (some ⟨lb, lo, none⟩) l.length c)) (hc : MatC W M (some ⟨lb, lo, none⟩) l) (h0 : J [] W) :
    Calls Try.prog 60 #[.func (.yield y) #[] #[], .pointer (some ⟨Bs, 0, none⟩)] W fun e W' => (∃ v, e = .returned v) ∧ ∃ ys, ys.map Yl.bs = recs l ∧ J ys W' := by
  go_enter Try.func60, Try.ntmps60
  go_wp2_with fail
  go_step3
  go_wp2_with fail
  go_step3
  go_wp2_with fail
  go_loopg [3, 4] (l.length + 1) (fun gk s3 s4 wr => ∃ (a last : Nat) (ys : List Yl), a ≤ l.length ∧ ys.length ≤ a ∧ gk = l.length + 1 - a ∧ s3 = .int .i64 (a : Int) ∧ s4 = .int .u64 (last : Int) ∧ Hid (J ys wr) ∧ Hid (KM M W wr) ∧ Hid (recs l = ys.map Yl.bs ++ recsFrom l a last))
  case atStart => exact ⟨0, 0, [], Nat.zero_le _, Nat.le_refl _, rfl, rfl, rfl, Lib.hid h0, Lib.hid (KM.refl _), Lib.hid rfl⟩
  case round =>
    obtain ⟨a, last, ys, ha, hya, hgk, rfl, rfl, HJ, HK, HRC⟩ := hrel
    obtain ⟨g, hg⟩ : ∃ g, g = genS (l.getD a []) := ⟨_, rfl⟩
    have HGE := Lib.hid hg
    have HR0 := Lib.hid (show recAt l a = recGo a g a (l.drop a) by unfold recAt; rw [hg])
    clear hg
    rename World => wo
    have hBsr : Bs < wo.heap.size := Nat.lt_of_lt_of_le (hM _ hBM) HK.out.size
    go_wp2_with fail
    go_loopg [3, 4, 5, 6] (l.length - a) (fun gk2 s3 s4 s5 s6 wi => ∃ (j : Nat) (acc : List UInt8), a + j ≤ l.length ∧ gk2 = l.length - (a + j) ∧ s3 = .int .i64 (a : Int) ∧ s4 = .int .u64 (last : Int) ∧ s6 = .int .i64 ((a + j : Nat) : Int) ∧ acc.length ≤ 116 * j ∧ Hid (OwnB wi wo.heap.size s5 acc) ∧ Hid (Below wo.heap.size wo wi) ∧ Hid (recAt l a = (recGo a g (a + j) (l.drop (a + j))).map fun x => (acc ++ x.1, x.2)) ∧ Hid (0 < j → last ≤ g))
    case atStart => exact ⟨0, [], ha, rfl, rfl, rfl, rfl, by simp, Lib.hid OwnB.nil, Lib.hid (Below.refl _ _), Lib.hid (by rw [HR0.out]; simp), Lib.hid fun h => absurd h (by omega)⟩
    case round =>
      obtain ⟨j, acc, hj, hgk2, rfl, rfl, rfl, hacc, HO, HB, HRA, HLG⟩ := hrel
      have hbs : wr.cell? ⟨Bs, 0, none⟩ = some (.slice (some ⟨lb, lo, none⟩) l.length c) := ((HB.out.cell (p := ⟨Bs, 0, none⟩) hBsr).trans (HK.out.cell (p := ⟨Bs, 0, none⟩) hBM)).trans hBs
      by_cases hlt : a + j < l.length
      · obtain ⟨sb, so, sc, hcsw, hc1, hc2, hlbw, hsBw, hs128⟩ := hc.sec hs hlt
        obtain ⟨ab, ao, ac, hlaw, hd1, hd2, -, haBw, ha128⟩ := hc.sec hs (show a < l.length by omega)
        obtain ⟨s, hse⟩ : ∃ s, s = l[a + j] := ⟨_, rfl⟩
        obtain ⟨sa, hsa⟩ : ∃ sa, sa = l[a] := ⟨_, rfl⟩
        rw [← hse] at hsBw hs128
        rw [← hsa] at haBw ha128
        have HSE := Lib.hid hse
        obtain ⟨b', off', e', hMs, hsbw, h10w⟩ := hsBw.at_ (Below.refl _ _) (show 10 < s.length by omega)
        injection e' with e'
        injection e' with e1 e2
        subst e1 e2
        obtain ⟨b', off', e', -, -, h11w⟩ := hsBw.at_ (Below.refl _ _) (show 11 < s.length by omega)
        injection e' with e'
        injection e' with e1 e2
        subst e1 e2
        have hMl : M lb := by
          obtain ⟨vs, hv1, -⟩ := hc
          obtain ⟨b', off', e', hMl, -⟩ := hv1 (by omega)
          injection e' with e'
          injection e' with e1 e2
          rw [e1]; exact hMl
        have hszo := HK.out.size
        have hlbo : lb < wo.heap.size := Nat.lt_of_lt_of_le (hM _ hMl) hszo
        have hsbo : sb < wo.heap.size := Nat.lt_of_lt_of_le (hM _ hMs) hszo
        have hszr := HB.out.size
        have hlbr : lb < wr.heap.size := Nat.lt_of_lt_of_le hlbo hszr
        have hsbr : sb < wr.heap.size := Nat.lt_of_lt_of_le hsbo hszr
        have hBsr2 : Bs < wr.heap.size := Nat.lt_of_lt_of_le hBsr hszr
        have tr : ∀ p : Addr, M p.block → wr.cell? p = W.cell? p := fun p hp => (HB.out.cell (p := p) (Nat.lt_of_lt_of_le (hM _ hp) hszo)).trans (HK.out.cell (p := p) hp)
        have HTR := Lib.hid tr
        have hcs := (tr ⟨lb, lo + (a + j), none⟩ hMl).trans hcsw
        have hla := (tr ⟨lb, lo + a, none⟩ hMl).trans hlaw
        rw [sec_kd hs128] at h10w
        rw [sec_ln hs128] at h11w
        have h10 := (tr ⟨sb, so + 10, none⟩ hMs).trans h10w
        have h11 := (tr ⟨sb, so + 11, none⟩ hMs).trans h11w
        have hsB : BytesC wr M (some ⟨sb, so, none⟩) s := hsBw.keep fun p hp _ => tr p hp
        have haB : BytesC wr M (some ⟨ab, ao, none⟩) sa := haBw.keep fun p hp _ => tr p hp
        obtain ⟨kd, hkd⟩ : ∃ kd, kd = kindS s := ⟨_, rfl⟩
        obtain ⟨n, hn⟩ : ∃ n, n = lenS s := ⟨_, rfl⟩
        rw [← hkd] at h10 h10w
        rw [← hn] at h11
        have H10W := Lib.hid h10w
        have hkl : kd < 256 := by rw [hkd, ← sec_kd hs128]; exact byte_lt _
        have hnl : n < 256 := by rw [hn, ← sec_ln hs128]; exact byte_lt _
        have HKD := Lib.hid hkd
        have HN := Lib.hid hn
        obtain ⟨x, hx⟩ : ∃ x, x = genS s := ⟨_, rfl⟩
        obtain ⟨z, hz⟩ : ∃ z, z = genS sa := ⟨_, rfl⟩
        have hzg : z = g := by rw [hz, hsa, HGE.out, List.getD_eq_getElem?_getD, List.getElem?_eq_getElem (by omega), Option.getD_some]
        have HY := Lib.hid hzg
        have HX := Lib.hid hx
        have CG := Lib.hid fun (W' : World) (hB : Below wr.heap.size wr W') => good_any W' M (some ⟨sb, so, none⟩) sc s (a + j) hs128 hc1 hc2 (by omega) (hsB.below hB)
        have l4 : (s.take 4).length = 4 := by rw [List.length_take]; omega
        have m4 : (sa.take 4).length = 4 := by rw [List.length_take]; omega
        have CX := Lib.hid fun (W' : World) (hB : Below wr.heap.size wr W') => get_any W' M (some ⟨sb, so, none⟩) sc (s.take 4) (by omega) ((hsB.part 0 4 (by omega)).below hB)
        have CY := Lib.hid fun (W' : World) (hB : Below wr.heap.size wr W') => get_any W' M (some ⟨ab, ao, none⟩) ac (sa.take 4) (by omega) ((haB.part 0 4 (by omega)).below hB)
        rw [l4, show num (s.take 4) = x from hx.symm] at CX
        rw [m4, show num (sa.take 4) = z from hz.symm] at CY
        have HSB := Lib.hid hsB
        have HSBW := Lib.hid hsBw
        have H128 := Lib.hid hs128
        obtain ⟨f, hf⟩ : ∃ f, f = (fitS a g (a + j) s && !(decide (x < last))) := ⟨_, rfl⟩
        have HF := Lib.hid hf
        have hk0 : (0 : Int) ≤ ((a + j : Nat) : Int) := by omega
        have hk1 : ((a + j : Nat) : Int) < (l.length : Int) := by omega
        have hk0' : (0 : Int) ≤ (a : Int) + (j : Int) := by omega
        have hk1' : (a : Int) + (j : Int) < (l.length : Int) := by omega
        have ha0 : (0 : Int) ≤ (a : Int) := by omega
        have ha1 : (a : Int) < (l.length : Int) := by omega
        have i4 : (4 : Int) ≤ (sc : Int) := by omega
        have i4' : (4 : Int) ≤ (ac : Int) := by omega
        have j4 : 4 ≤ sc := by omega
        have j4' : 4 ≤ ac := by omega
        have k4 : ¬ (sc : Int) < 4 := by omega
        have k4' : ¬ (ac : Int) < 4 := by omega
        have n4 : ¬ sc < 4 := by omega
        have n4' : ¬ ac < 4 := by omega
        have o4 : ¬ sc = 0 := by omega
        have o4' : ¬ ac = 0 := by omega
        clear hse hsa hkd hn hx hz hzg hf l4 m4 hsB haB hs128 ha128 hcsw hlbw hsBw hlaw haBw hsbw h10w h11w tr
        go_upto_region 6 with fail
        go_cut [7, 52] (fun sv v W' => sv = .slice (some ⟨sb, so, none⟩) 128 sc ∧ v = .bool (!f) ∧ Hid (Below wr.heap.size wr W'))
        case first =>
          refine wp_region_held_drew (S := fun w' => w'.cell? ⟨sb, so + 10, none⟩ = some (.int .u8 (kd : Int)) ∧ w'.cell? ⟨lb, lo + a, none⟩ = some (.slice (some ⟨ab, ao, none⟩) 128 ac) ∧ w'.cell? ⟨Bs, 0, none⟩ = some (.slice (some ⟨lb, lo, none⟩) l.length c)) (by kernel_rfl) ⟨h10, hla, hbs⟩ (fun hHeld => ?_)
          change wpAnyH _ _ _ _ _ 34 #[false, false, false, false, false, false, false, false, false, false, false, false, false, false, false, false, false, false, false, false, false, false, false, false, false, false, false, false, false, false, false, false, false, false] _ wr.drew
          refine takeD (i := 0) (d := some 19) (v := ?_) rfl rfl (by kernel_rfl) (by kernel_rfl) (by kernel_rfl) (fun _ _ _ h => h) (Or.inl ⟨by rfl, ?_⟩) hHeld ?_
          rotate_left 1
          focus (intro w hSw; (try dsimp only at hSw); go_simp; (try with_reducible rfl))
          (repeat (first | simp only [Act.put] | simp only [List.setIfInBounds_toArray] | simp only [List.set_cons_zero] | simp only [List.set_cons_succ]))
          refine takeD (i := 1) (d := some 20) (v := ?_) rfl rfl (by kernel_rfl) (by kernel_rfl) (by kernel_rfl) (fun _ _ _ h => h) (Or.inl ⟨by rfl, ?_⟩) hHeld ?_
          rotate_left 1
          focus (intro w hSw; (try dsimp only at hSw); go_simp; (try with_reducible rfl))
          (repeat (first | simp only [Act.put] | simp only [List.setIfInBounds_toArray] | simp only [List.set_cons_zero] | simp only [List.set_cons_succ]))
          refine wpAnyH_ready (rs := [2]) (by kernel_rfl) (by simp) ?_
          refine AllReadyH.cons rfl (fun K hK => ?_) AllReadyH.nil
          go_simp
          go_at_call 61
          refine (CG.out _ (by repeat (first | with_reducible exact Below.refl _ _ | with_reducible exact HB9.out | (with_reducible refine Below.drew ?_)))).mono ?_
          rintro e w9 ⟨rfl, hb9⟩
          have HB9 : Hid (Below wr.heap.size wr w9) := Lib.hid ((Below.drew (Below.refl _ _)).trans hb9)
          clear hb9
          refine hK.out _ _ (⟨(Below.cell (by repeat (first | with_reducible exact Below.refl _ _ | with_reducible exact HB9.out | (with_reducible refine Below.drew ?_))) (p := ⟨sb, so + 10, none⟩) hsbr).trans h10, (Below.cell (by repeat (first | with_reducible exact Below.refl _ _ | with_reducible exact HB9.out | (with_reducible refine Below.drew ?_))) (p := ⟨lb, lo + a, none⟩) hlbr).trans hla, (Below.cell (by repeat (first | with_reducible exact Below.refl _ _ | with_reducible exact HB9.out | (with_reducible refine Below.drew ?_))) (p := ⟨Bs, 0, none⟩) hBsr2).trans hbs⟩) (fun hHeld => ?_)
          clear hK K
          (repeat (first | simp only [Act.put] | simp only [List.setIfInBounds_toArray] | simp only [List.set_cons_zero] | simp only [List.set_cons_succ]))
          cases hgd : goodB s (a + j)
          · skip
            have HFn := Lib.hid (show f = false by rw [HF.out]; unfold fitS; rw [hgd]; rfl)
            refine takeD (i := 3) (d := some 22) (v := ?_) rfl rfl (by kernel_rfl) (by kernel_rfl) (by kernel_rfl) (fun _ _ _ h => h) (Or.inl ⟨by rfl, ?_⟩) hHeld ?_
            rotate_left 1
            focus (intro w hSw; (try dsimp only at hSw); go_simp; (try with_reducible rfl))
            (repeat (first | simp only [Act.put] | simp only [List.setIfInBounds_toArray] | simp only [List.set_cons_zero] | simp only [List.set_cons_succ]))
            refine takeD (i := 4) (d := some 23) (v := ?_) rfl rfl (by kernel_rfl) (by kernel_rfl) (by kernel_rfl) (fun _ _ _ h => h) (Or.inl ⟨by rfl, ?_⟩) hHeld ?_
            rotate_left 1
            focus (intro w hSw; (try dsimp only at hSw); go_simp; (try with_reducible rfl))
            (repeat (first | simp only [Act.put] | simp only [List.setIfInBounds_toArray] | simp only [List.set_cons_zero] | simp only [List.set_cons_succ]))
            refine takeD (i := 5) (d := some 24) (v := undef) rfl rfl (by kernel_rfl) (by kernel_rfl) (by kernel_rfl) (fun _ _ _ h => h) (Or.inr ⟨by rfl, rfl⟩) hHeld ?_
            (repeat (first | simp only [Act.put] | simp only [List.setIfInBounds_toArray] | simp only [List.set_cons_zero] | simp only [List.set_cons_succ]))
            refine takeD (i := 6) (d := some 25) (v := undef) rfl rfl (by kernel_rfl) (by kernel_rfl) (by kernel_rfl) (fun _ _ _ h => h) (Or.inr ⟨by rfl, rfl⟩) hHeld ?_
            (repeat (first | simp only [Act.put] | simp only [List.setIfInBounds_toArray] | simp only [List.set_cons_zero] | simp only [List.set_cons_succ]))
            refine takeD (i := 7) (d := some 26) (v := undef) rfl rfl (by kernel_rfl) (by kernel_rfl) (by kernel_rfl) (fun _ _ _ h => h) (Or.inr ⟨by rfl, rfl⟩) hHeld ?_
            (repeat (first | simp only [Act.put] | simp only [List.setIfInBounds_toArray] | simp only [List.set_cons_zero] | simp only [List.set_cons_succ]))
            refine takeD (i := 8) (d := some 27) (v := undef) rfl rfl (by kernel_rfl) (by kernel_rfl) (by kernel_rfl) (fun _ _ _ h => h) (Or.inr ⟨by rfl, rfl⟩) hHeld ?_
            (repeat (first | simp only [Act.put] | simp only [List.setIfInBounds_toArray] | simp only [List.set_cons_zero] | simp only [List.set_cons_succ]))
            refine takeD (i := 9) (d := some 28) (v := undef) rfl rfl (by kernel_rfl) (by kernel_rfl) (by kernel_rfl) (fun _ _ _ h => h) (Or.inr ⟨by rfl, rfl⟩) hHeld ?_
            (repeat (first | simp only [Act.put] | simp only [List.setIfInBounds_toArray] | simp only [List.set_cons_zero] | simp only [List.set_cons_succ]))
            refine takeD (i := 10) (d := some 29) (v := undef) rfl rfl (by kernel_rfl) (by kernel_rfl) (by kernel_rfl) (fun _ _ _ h => h) (Or.inr ⟨by rfl, rfl⟩) hHeld ?_
            (repeat (first | simp only [Act.put] | simp only [List.setIfInBounds_toArray] | simp only [List.set_cons_zero] | simp only [List.set_cons_succ]))
            refine takeD (i := 11) (d := some 30) (v := undef) rfl rfl (by kernel_rfl) (by kernel_rfl) (by kernel_rfl) (fun _ _ _ h => h) (Or.inr ⟨by rfl, rfl⟩) hHeld ?_
            (repeat (first | simp only [Act.put] | simp only [List.setIfInBounds_toArray] | simp only [List.set_cons_zero] | simp only [List.set_cons_succ]))
            refine takeD (i := 12) (d := some 31) (v := undef) rfl rfl (by kernel_rfl) (by kernel_rfl) (by kernel_rfl) (fun _ _ _ h => h) (Or.inr ⟨by rfl, rfl⟩) hHeld ?_
            (repeat (first | simp only [Act.put] | simp only [List.setIfInBounds_toArray] | simp only [List.set_cons_zero] | simp only [List.set_cons_succ]))
            refine takeD (i := 13) (d := some 32) (v := undef) rfl rfl (by kernel_rfl) (by kernel_rfl) (by kernel_rfl) (fun _ _ _ h => h) (Or.inr ⟨by rfl, rfl⟩) hHeld ?_
            (repeat (first | simp only [Act.put] | simp only [List.setIfInBounds_toArray] | simp only [List.set_cons_zero] | simp only [List.set_cons_succ]))
            refine takeD (i := 14) (d := some 33) (v := ?_) rfl rfl (by kernel_rfl) (by kernel_rfl) (by kernel_rfl) (fun _ _ _ h => h) (Or.inl ⟨by rfl, ?_⟩) hHeld ?_
            rotate_left 1
            focus (intro w hSw; (try dsimp only at hSw); go_simp; (try with_reducible rfl))
            (repeat (first | simp only [Act.put] | simp only [List.setIfInBounds_toArray] | simp only [List.set_cons_zero] | simp only [List.set_cons_succ]))
            refine takeD (i := 15) (d := some 34) (v := ?_) rfl rfl (by kernel_rfl) (by kernel_rfl) (by kernel_rfl) (fun _ _ _ h => h) (Or.inl ⟨by rfl, ?_⟩) hHeld ?_
            rotate_left 1
            focus (intro w hSw; (try dsimp only at hSw); go_simp; (try with_reducible rfl))
            (repeat (first | simp only [Act.put] | simp only [List.setIfInBounds_toArray] | simp only [List.set_cons_zero] | simp only [List.set_cons_succ]))
            refine takeD (i := 16) (d := some 35) (v := undef) rfl rfl (by kernel_rfl) (by kernel_rfl) (by kernel_rfl) (fun _ _ _ h => h) (Or.inr ⟨by rfl, rfl⟩) hHeld ?_
            (repeat (first | simp only [Act.put] | simp only [List.setIfInBounds_toArray] | simp only [List.set_cons_zero] | simp only [List.set_cons_succ]))
            refine takeD (i := 17) (d := some 36) (v := undef) rfl rfl (by kernel_rfl) (by kernel_rfl) (by kernel_rfl) (fun _ _ _ h => h) (Or.inr ⟨by rfl, rfl⟩) hHeld ?_
            (repeat (first | simp only [Act.put] | simp only [List.setIfInBounds_toArray] | simp only [List.set_cons_zero] | simp only [List.set_cons_succ]))
            refine takeD (i := 18) (d := some 37) (v := undef) rfl rfl (by kernel_rfl) (by kernel_rfl) (by kernel_rfl) (fun _ _ _ h => h) (Or.inr ⟨by rfl, rfl⟩) hHeld ?_
            (repeat (first | simp only [Act.put] | simp only [List.setIfInBounds_toArray] | simp only [List.set_cons_zero] | simp only [List.set_cons_succ]))
            refine takeD (i := 19) (d := some 38) (v := undef) rfl rfl (by kernel_rfl) (by kernel_rfl) (by kernel_rfl) (fun _ _ _ h => h) (Or.inr ⟨by rfl, rfl⟩) hHeld ?_
            (repeat (first | simp only [Act.put] | simp only [List.setIfInBounds_toArray] | simp only [List.set_cons_zero] | simp only [List.set_cons_succ]))
            refine takeD (i := 20) (d := some 39) (v := undef) rfl rfl (by kernel_rfl) (by kernel_rfl) (by kernel_rfl) (fun _ _ _ h => h) (Or.inr ⟨by rfl, rfl⟩) hHeld ?_
            (repeat (first | simp only [Act.put] | simp only [List.setIfInBounds_toArray] | simp only [List.set_cons_zero] | simp only [List.set_cons_succ]))
            refine takeD (i := 21) (d := some 40) (v := undef) rfl rfl (by kernel_rfl) (by kernel_rfl) (by kernel_rfl) (fun _ _ _ h => h) (Or.inr ⟨by rfl, rfl⟩) hHeld ?_
            (repeat (first | simp only [Act.put] | simp only [List.setIfInBounds_toArray] | simp only [List.set_cons_zero] | simp only [List.set_cons_succ]))
            refine takeD (i := 22) (d := some 41) (v := undef) rfl rfl (by kernel_rfl) (by kernel_rfl) (by kernel_rfl) (fun _ _ _ h => h) (Or.inr ⟨by rfl, rfl⟩) hHeld ?_
            (repeat (first | simp only [Act.put] | simp only [List.setIfInBounds_toArray] | simp only [List.set_cons_zero] | simp only [List.set_cons_succ]))
            refine takeD (i := 23) (d := some 42) (v := undef) rfl rfl (by kernel_rfl) (by kernel_rfl) (by kernel_rfl) (fun _ _ _ h => h) (Or.inr ⟨by rfl, rfl⟩) hHeld ?_
            (repeat (first | simp only [Act.put] | simp only [List.setIfInBounds_toArray] | simp only [List.set_cons_zero] | simp only [List.set_cons_succ]))
            refine takeD (i := 24) (d := some 43) (v := undef) rfl rfl (by kernel_rfl) (by kernel_rfl) (by kernel_rfl) (fun _ _ _ h => h) (Or.inr ⟨by rfl, rfl⟩) hHeld ?_
            (repeat (first | simp only [Act.put] | simp only [List.setIfInBounds_toArray] | simp only [List.set_cons_zero] | simp only [List.set_cons_succ]))
            refine takeD (i := 25) (d := some 44) (v := undef) rfl rfl (by kernel_rfl) (by kernel_rfl) (by kernel_rfl) (fun _ _ _ h => h) (Or.inr ⟨by rfl, rfl⟩) hHeld ?_
            (repeat (first | simp only [Act.put] | simp only [List.setIfInBounds_toArray] | simp only [List.set_cons_zero] | simp only [List.set_cons_succ]))
            refine takeD (i := 26) (d := some 45) (v := ?_) rfl rfl (by kernel_rfl) (by kernel_rfl) (by kernel_rfl) (fun _ _ _ h => h) (Or.inl ⟨by rfl, ?_⟩) hHeld ?_
            rotate_left 1
            focus (intro w hSw; (try dsimp only at hSw); go_simp; (try with_reducible rfl))
            (repeat (first | simp only [Act.put] | simp only [List.setIfInBounds_toArray] | simp only [List.set_cons_zero] | simp only [List.set_cons_succ]))
            refine takeD (i := 27) (d := some 46) (v := ?_) rfl rfl (by kernel_rfl) (by kernel_rfl) (by kernel_rfl) (fun _ _ _ h => h) (Or.inl ⟨by rfl, ?_⟩) hHeld ?_
            rotate_left 1
            focus (intro w hSw; (try dsimp only at hSw); go_simp; (try with_reducible rfl))
            (repeat (first | simp only [Act.put] | simp only [List.setIfInBounds_toArray] | simp only [List.set_cons_zero] | simp only [List.set_cons_succ]))
            refine takeD (i := 28) (d := some 47) (v := undef) rfl rfl (by kernel_rfl) (by kernel_rfl) (by kernel_rfl) (fun _ _ _ h => h) (Or.inr ⟨by rfl, rfl⟩) hHeld ?_
            (repeat (first | simp only [Act.put] | simp only [List.setIfInBounds_toArray] | simp only [List.set_cons_zero] | simp only [List.set_cons_succ]))
            refine takeD (i := 29) (d := some 48) (v := undef) rfl rfl (by kernel_rfl) (by kernel_rfl) (by kernel_rfl) (fun _ _ _ h => h) (Or.inr ⟨by rfl, rfl⟩) hHeld ?_
            (repeat (first | simp only [Act.put] | simp only [List.setIfInBounds_toArray] | simp only [List.set_cons_zero] | simp only [List.set_cons_succ]))
            refine takeD (i := 30) (d := some 49) (v := undef) rfl rfl (by kernel_rfl) (by kernel_rfl) (by kernel_rfl) (fun _ _ _ h => h) (Or.inr ⟨by rfl, rfl⟩) hHeld ?_
            (repeat (first | simp only [Act.put] | simp only [List.setIfInBounds_toArray] | simp only [List.set_cons_zero] | simp only [List.set_cons_succ]))
            refine takeD (i := 31) (d := some 50) (v := undef) rfl rfl (by kernel_rfl) (by kernel_rfl) (by kernel_rfl) (fun _ _ _ h => h) (Or.inr ⟨by rfl, rfl⟩) hHeld ?_
            (repeat (first | simp only [Act.put] | simp only [List.setIfInBounds_toArray] | simp only [List.set_cons_zero] | simp only [List.set_cons_succ]))
            refine takeD (i := 32) (d := some 51) (v := undef) rfl rfl (by kernel_rfl) (by kernel_rfl) (by kernel_rfl) (fun _ _ _ h => h) (Or.inr ⟨by rfl, rfl⟩) hHeld ?_
            (repeat (first | simp only [Act.put] | simp only [List.setIfInBounds_toArray] | simp only [List.set_cons_zero] | simp only [List.set_cons_succ]))
            refine takeD (i := 33) (d := some 52) (v := ?_) rfl rfl (by kernel_rfl) (by kernel_rfl) (by kernel_rfl) (fun _ _ _ h => h) (Or.inl ⟨by rfl, ?_⟩) hHeld ?_
            rotate_left 1
            focus (intro w hSw; (try dsimp only at hSw); go_simp; (try with_reducible rfl))
            (repeat (first | simp only [Act.put] | simp only [List.setIfInBounds_toArray] | simp only [List.set_cons_zero] | simp only [List.set_cons_succ]))
            refine wpAnyH_done (by kernel_rfl) ?_ _
            have hz : f = false := HFn.out
            go_wp2_with fail
            go_meet
            case rel => exact ⟨rfl, by rw [hz]; rfl, Lib.hid (by repeat (first | with_reducible exact Below.refl _ _ | with_reducible exact HB9.out | (with_reducible refine Below.drew ?_)))⟩
          · skip
            have HGD := Lib.hid hgd
            clear hgd
            refine takeD (i := 3) (d := some 22) (v := ?_) rfl rfl (by kernel_rfl) (by kernel_rfl) (by kernel_rfl) (fun _ _ _ h => h) (Or.inl ⟨by rfl, ?_⟩) hHeld ?_
            rotate_left 1
            focus (intro w hSw; (try dsimp only at hSw); go_simp; (try with_reducible rfl))
            (repeat (first | simp only [Act.put] | simp only [List.setIfInBounds_toArray] | simp only [List.set_cons_zero] | simp only [List.set_cons_succ]))
            refine takeD (i := 4) (d := some 23) (v := ?_) rfl rfl (by kernel_rfl) (by kernel_rfl) (by kernel_rfl) (fun _ _ _ h => h) (Or.inl ⟨by rfl, ?_⟩) hHeld ?_
            rotate_left 1
            focus (intro w hSw; (try dsimp only at hSw); go_simp; (try with_reducible rfl))
            (repeat (first | simp only [Act.put] | simp only [List.setIfInBounds_toArray] | simp only [List.set_cons_zero] | simp only [List.set_cons_succ]))
            refine takeD (i := 5) (d := some 24) (v := ?_) rfl rfl (by kernel_rfl) (by kernel_rfl) (by kernel_rfl) (fun _ _ _ h => h) (Or.inl ⟨by rfl, ?_⟩) hHeld ?_
            rotate_left 1
            focus (intro w hSw; (try dsimp only at hSw); go_simp; (try with_reducible rfl))
            (repeat (first | simp only [Act.put] | simp only [List.setIfInBounds_toArray] | simp only [List.set_cons_zero] | simp only [List.set_cons_succ]))
            refine takeD (i := 6) (d := some 25) (v := ?_) rfl rfl (by kernel_rfl) (by kernel_rfl) (by kernel_rfl) (fun _ _ _ h => h) (Or.inl ⟨by rfl, ?_⟩) hHeld ?_
            rotate_left 1
            focus (intro w hSw; (try dsimp only at hSw); go_simp; (try with_reducible rfl))
            (repeat (first | simp only [Act.put] | simp only [List.setIfInBounds_toArray] | simp only [List.set_cons_zero] | simp only [List.set_cons_succ]))
            refine takeD (i := 7) (d := some 26) (v := ?_) rfl rfl (by kernel_rfl) (by kernel_rfl) (by kernel_rfl) (fun _ _ _ h => h) (Or.inl ⟨by rfl, ?_⟩) hHeld ?_
            rotate_left 1
            focus (intro w hSw; (try dsimp only at hSw); go_simp; (try with_reducible rfl))
            (repeat (first | simp only [Act.put] | simp only [List.setIfInBounds_toArray] | simp only [List.set_cons_zero] | simp only [List.set_cons_succ]))
            by_cases ho : kd % 2 = 1
            · skip
              have ho0 : bits .and .u8 (kd : Int) 1 = 1 := by rw [show (1 : Int) = ((1 : Nat) : Int) from rfl, u8_and_nat kd 1 hkl (by omega), nat_mask1]; omega
              have hoX := Lib.hid ho
              clear ho
              by_cases hj0 : j = 0
              · skip
                have hi1 : (((a + j : Nat) : Int) == (a : Int)) = true := by rw [beq_iff_eq]; omega
                have hi2 : (a + j == a) = true := by rw [beq_iff_eq]; omega
                have hi3 : ((a : Int) + (j : Int) == (a : Int)) = true := by rw [beq_iff_eq]; omega
                have hjX := Lib.hid hj0
                clear hj0
                refine takeD (i := 8) (d := some 27) (v := ?_) rfl rfl (by kernel_rfl) (by kernel_rfl) (by kernel_rfl) (fun _ _ _ h => h) (Or.inl ⟨by rfl, ?_⟩) hHeld ?_
                rotate_left 1
                focus (intro w hSw; (try dsimp only at hSw); go_simp; (try with_reducible rfl))
                (repeat (first | simp only [Act.put] | simp only [List.setIfInBounds_toArray] | simp only [List.set_cons_zero] | simp only [List.set_cons_succ]))
                refine takeD (i := 9) (d := some 28) (v := ?_) rfl rfl (by kernel_rfl) (by kernel_rfl) (by kernel_rfl) (fun _ _ _ h => h) (Or.inl ⟨by rfl, ?_⟩) hHeld ?_
                rotate_left 1
                focus (intro w hSw; (try dsimp only at hSw); go_simp; (try with_reducible rfl))
                (repeat (first | simp only [Act.put] | simp only [List.setIfInBounds_toArray] | simp only [List.set_cons_zero] | simp only [List.set_cons_succ]))
                refine takeD (i := 10) (d := some 29) (v := ?_) rfl rfl (by kernel_rfl) (by kernel_rfl) (by kernel_rfl) (fun _ _ _ h => h) (Or.inl ⟨by rfl, ?_⟩) hHeld ?_
                rotate_left 1
                focus (intro w hSw; (try dsimp only at hSw); go_simp; (try with_reducible rfl))
                (repeat (first | simp only [Act.put] | simp only [List.setIfInBounds_toArray] | simp only [List.set_cons_zero] | simp only [List.set_cons_succ]))
                refine takeD (i := 11) (d := some 30) (v := ?_) rfl rfl (by kernel_rfl) (by kernel_rfl) (by kernel_rfl) (fun _ _ _ h => h) (Or.inl ⟨by rfl, ?_⟩) hHeld ?_
                rotate_left 1
                focus (intro w hSw; (try dsimp only at hSw); go_simp; (try with_reducible rfl))
                (repeat (first | simp only [Act.put] | simp only [List.setIfInBounds_toArray] | simp only [List.set_cons_zero] | simp only [List.set_cons_succ]))
                refine takeD (i := 12) (d := some 31) (v := ?_) rfl rfl (by kernel_rfl) (by kernel_rfl) (by kernel_rfl) (fun _ _ _ h => h) (Or.inl ⟨by rfl, ?_⟩) hHeld ?_
                rotate_left 1
                focus (intro w hSw; (try dsimp only at hSw); go_simp; (try with_reducible rfl))
                (repeat (first | simp only [Act.put] | simp only [List.setIfInBounds_toArray] | simp only [List.set_cons_zero] | simp only [List.set_cons_succ]))
                refine takeD (i := 13) (d := some 32) (v := ?_) rfl rfl (by kernel_rfl) (by kernel_rfl) (by kernel_rfl) (fun _ _ _ h => h) (Or.inl ⟨by rfl, ?_⟩) hHeld ?_
                rotate_left 1
                focus (intro w hSw; (try dsimp only at hSw); go_simp; (try with_reducible rfl))
                (repeat (first | simp only [Act.put] | simp only [List.setIfInBounds_toArray] | simp only [List.set_cons_zero] | simp only [List.set_cons_succ]))
                refine takeD (i := 14) (d := some 33) (v := ?_) rfl rfl (by kernel_rfl) (by kernel_rfl) (by kernel_rfl) (fun _ _ _ h => h) (Or.inl ⟨by rfl, ?_⟩) hHeld ?_
                rotate_left 1
                focus (intro w hSw; (try dsimp only at hSw); go_simp; (try with_reducible rfl))
                (repeat (first | simp only [Act.put] | simp only [List.setIfInBounds_toArray] | simp only [List.set_cons_zero] | simp only [List.set_cons_succ]))
                refine takeD (i := 15) (d := some 34) (v := ?_) rfl rfl (by kernel_rfl) (by kernel_rfl) (by kernel_rfl) (fun _ _ _ h => h) (Or.inl ⟨by rfl, ?_⟩) hHeld ?_
                rotate_left 1
                focus (intro w hSw; (try dsimp only at hSw); go_simp; (try with_reducible rfl))
                (repeat (first | simp only [Act.put] | simp only [List.setIfInBounds_toArray] | simp only [List.set_cons_zero] | simp only [List.set_cons_succ]))
                refine takeD (i := 16) (d := some 35) (v := ?_) rfl rfl (by kernel_rfl) (by kernel_rfl) (by kernel_rfl) (fun _ _ _ h => h) (Or.inl ⟨by rfl, ?_⟩) hHeld ?_
                rotate_left 1
                focus (intro w hSw; (try dsimp only at hSw); go_simp; (try with_reducible rfl))
                (repeat (first | simp only [Act.put] | simp only [List.setIfInBounds_toArray] | simp only [List.set_cons_zero] | simp only [List.set_cons_succ]))
                refine takeD (i := 17) (d := some 36) (v := ?_) rfl rfl (by kernel_rfl) (by kernel_rfl) (by kernel_rfl) (fun _ _ _ h => h) (Or.inl ⟨by rfl, ?_⟩) hHeld ?_
                rotate_left 1
                focus (intro w hSw; (try dsimp only at hSw); go_simp; (try with_reducible rfl))
                (repeat (first | simp only [Act.put] | simp only [List.setIfInBounds_toArray] | simp only [List.set_cons_zero] | simp only [List.set_cons_succ]))
                refine takeD (i := 19) (d := some 38) (v := ?_) rfl rfl (by kernel_rfl) (by kernel_rfl) (by kernel_rfl) (fun _ _ _ h => h) (Or.inl ⟨by rfl, ?_⟩) hHeld ?_
                rotate_left 1
                focus (intro w hSw; (try dsimp only at hSw); go_simp; (try with_reducible rfl))
                (repeat (first | simp only [Act.put] | simp only [List.setIfInBounds_toArray] | simp only [List.set_cons_zero] | simp only [List.set_cons_succ]))
                refine takeD (i := 20) (d := some 39) (v := ?_) rfl rfl (by kernel_rfl) (by kernel_rfl) (by kernel_rfl) (fun _ _ _ h => h) (Or.inl ⟨by rfl, ?_⟩) hHeld ?_
                rotate_left 1
                focus (intro w hSw; (try dsimp only at hSw); go_simp; (try with_reducible rfl))
                (repeat (first | simp only [Act.put] | simp only [List.setIfInBounds_toArray] | simp only [List.set_cons_zero] | simp only [List.set_cons_succ]))
                refine takeD (i := 21) (d := some 40) (v := ?_) rfl rfl (by kernel_rfl) (by kernel_rfl) (by kernel_rfl) (fun _ _ _ h => h) (Or.inl ⟨by rfl, ?_⟩) hHeld ?_
                rotate_left 1
                focus (intro w hSw; (try dsimp only at hSw); go_simp; (try with_reducible rfl))
                (repeat (first | simp only [Act.put] | simp only [List.setIfInBounds_toArray] | simp only [List.set_cons_zero] | simp only [List.set_cons_succ]))
                refine takeD (i := 22) (d := some 41) (v := ?_) rfl rfl (by kernel_rfl) (by kernel_rfl) (by kernel_rfl) (fun _ _ _ h => h) (Or.inl ⟨by rfl, ?_⟩) hHeld ?_
                rotate_left 1
                focus (intro w hSw; (try dsimp only at hSw); go_simp; (try with_reducible rfl))
                (repeat (first | simp only [Act.put] | simp only [List.setIfInBounds_toArray] | simp only [List.set_cons_zero] | simp only [List.set_cons_succ]))
                refine takeD (i := 23) (d := some 42) (v := ?_) rfl rfl (by kernel_rfl) (by kernel_rfl) (by kernel_rfl) (fun _ _ _ h => h) (Or.inl ⟨by rfl, ?_⟩) hHeld ?_
                rotate_left 1
                focus (intro w hSw; (try dsimp only at hSw); go_simp; (try with_reducible rfl))
                (repeat (first | simp only [Act.put] | simp only [List.setIfInBounds_toArray] | simp only [List.set_cons_zero] | simp only [List.set_cons_succ]))
                refine wpAnyH_ready (rs := [18]) (by kernel_rfl) (by simp) ?_
                refine AllReadyH.cons rfl (fun K hK => ?_) AllReadyH.nil
                go_simp
                go_at_call 41
                refine (CX.out _ (by repeat (first | with_reducible exact Below.refl _ _ | with_reducible exact HB9.out | (with_reducible refine Below.drew ?_)))).mono ?_
                rintro e w10 ⟨rfl, rfl⟩
                refine hK.out _ _ (⟨(Below.cell (by repeat (first | with_reducible exact Below.refl _ _ | with_reducible exact HB9.out | (with_reducible refine Below.drew ?_))) (p := ⟨sb, so + 10, none⟩) hsbr).trans h10, (Below.cell (by repeat (first | with_reducible exact Below.refl _ _ | with_reducible exact HB9.out | (with_reducible refine Below.drew ?_))) (p := ⟨lb, lo + a, none⟩) hlbr).trans hla, (Below.cell (by repeat (first | with_reducible exact Below.refl _ _ | with_reducible exact HB9.out | (with_reducible refine Below.drew ?_))) (p := ⟨Bs, 0, none⟩) hBsr2).trans hbs⟩) (fun hHeld => ?_)
                clear hK K
                (repeat (first | simp only [Act.put] | simp only [List.setIfInBounds_toArray] | simp only [List.set_cons_zero] | simp only [List.set_cons_succ]))
                refine wpAnyH_ready (rs := [24]) (by kernel_rfl) (by simp) ?_
                refine AllReadyH.cons rfl (fun K hK => ?_) AllReadyH.nil
                go_simp
                go_at_call 41
                refine (CY.out _ (by repeat (first | with_reducible exact Below.refl _ _ | with_reducible exact HB9.out | (with_reducible refine Below.drew ?_)))).mono ?_
                rintro e w10 ⟨rfl, rfl⟩
                refine hK.out _ _ (⟨(Below.cell (by repeat (first | with_reducible exact Below.refl _ _ | with_reducible exact HB9.out | (with_reducible refine Below.drew ?_))) (p := ⟨sb, so + 10, none⟩) hsbr).trans h10, (Below.cell (by repeat (first | with_reducible exact Below.refl _ _ | with_reducible exact HB9.out | (with_reducible refine Below.drew ?_))) (p := ⟨lb, lo + a, none⟩) hlbr).trans hla, (Below.cell (by repeat (first | with_reducible exact Below.refl _ _ | with_reducible exact HB9.out | (with_reducible refine Below.drew ?_))) (p := ⟨Bs, 0, none⟩) hBsr2).trans hbs⟩) (fun hHeld => ?_)
                clear hK K
                (repeat (first | simp only [Act.put] | simp only [List.setIfInBounds_toArray] | simp only [List.set_cons_zero] | simp only [List.set_cons_succ]))
                by_cases hxy : x = z
                · skip
                  have hxy1 : ((x : Int) != (z : Int)) = false := by rw [bne_eq_false_iff_eq]; omega
                  have hxyX := Lib.hid hxy
                  clear hxy
                  refine takeD (i := 25) (d := some 44) (v := ?_) rfl rfl (by kernel_rfl) (by kernel_rfl) (by kernel_rfl) (fun _ _ _ h => h) (Or.inl ⟨by rfl, ?_⟩) hHeld ?_
                  rotate_left 1
                  focus (intro w hSw; (try dsimp only at hSw); go_simp; (try with_reducible rfl))
                  (repeat (first | simp only [Act.put] | simp only [List.setIfInBounds_toArray] | simp only [List.set_cons_zero] | simp only [List.set_cons_succ]))
                  refine takeD (i := 26) (d := some 45) (v := ?_) rfl rfl (by kernel_rfl) (by kernel_rfl) (by kernel_rfl) (fun _ _ _ h => h) (Or.inl ⟨by rfl, ?_⟩) hHeld ?_
                  rotate_left 1
                  focus (intro w hSw; (try dsimp only at hSw); go_simp; (try with_reducible rfl))
                  (repeat (first | simp only [Act.put] | simp only [List.setIfInBounds_toArray] | simp only [List.set_cons_zero] | simp only [List.set_cons_succ]))
                  refine takeD (i := 27) (d := some 46) (v := ?_) rfl rfl (by kernel_rfl) (by kernel_rfl) (by kernel_rfl) (fun _ _ _ h => h) (Or.inl ⟨by rfl, ?_⟩) hHeld ?_
                  rotate_left 1
                  focus (intro w hSw; (try dsimp only at hSw); go_simp; (try with_reducible rfl))
                  (repeat (first | simp only [Act.put] | simp only [List.setIfInBounds_toArray] | simp only [List.set_cons_zero] | simp only [List.set_cons_succ]))
                  refine takeD (i := 28) (d := some 47) (v := ?_) rfl rfl (by kernel_rfl) (by kernel_rfl) (by kernel_rfl) (fun _ _ _ h => h) (Or.inl ⟨by rfl, ?_⟩) hHeld ?_
                  rotate_left 1
                  focus (intro w hSw; (try dsimp only at hSw); go_simp; (try with_reducible rfl))
                  (repeat (first | simp only [Act.put] | simp only [List.setIfInBounds_toArray] | simp only [List.set_cons_zero] | simp only [List.set_cons_succ]))
                  refine takeD (i := 29) (d := some 48) (v := ?_) rfl rfl (by kernel_rfl) (by kernel_rfl) (by kernel_rfl) (fun _ _ _ h => h) (Or.inl ⟨by rfl, ?_⟩) hHeld ?_
                  rotate_left 1
                  focus (intro w hSw; (try dsimp only at hSw); go_simp; (try with_reducible rfl))
                  (repeat (first | simp only [Act.put] | simp only [List.setIfInBounds_toArray] | simp only [List.set_cons_zero] | simp only [List.set_cons_succ]))
                  refine takeD (i := 31) (d := some 50) (v := ?_) rfl rfl (by kernel_rfl) (by kernel_rfl) (by kernel_rfl) (fun _ _ _ h => h) (Or.inl ⟨by rfl, ?_⟩) hHeld ?_
                  rotate_left 1
                  focus (intro w hSw; (try dsimp only at hSw); go_simp; (try with_reducible rfl))
                  (repeat (first | simp only [Act.put] | simp only [List.setIfInBounds_toArray] | simp only [List.set_cons_zero] | simp only [List.set_cons_succ]))
                  refine wpAnyH_ready (rs := [30]) (by kernel_rfl) (by simp) ?_
                  refine AllReadyH.cons rfl (fun K hK => ?_) AllReadyH.nil
                  go_simp
                  go_at_call 41
                  refine (CX.out _ (by repeat (first | with_reducible exact Below.refl _ _ | with_reducible exact HB9.out | (with_reducible refine Below.drew ?_)))).mono ?_
                  rintro e w10 ⟨rfl, rfl⟩
                  refine hK.out _ _ (⟨(Below.cell (by repeat (first | with_reducible exact Below.refl _ _ | with_reducible exact HB9.out | (with_reducible refine Below.drew ?_))) (p := ⟨sb, so + 10, none⟩) hsbr).trans h10, (Below.cell (by repeat (first | with_reducible exact Below.refl _ _ | with_reducible exact HB9.out | (with_reducible refine Below.drew ?_))) (p := ⟨lb, lo + a, none⟩) hlbr).trans hla, (Below.cell (by repeat (first | with_reducible exact Below.refl _ _ | with_reducible exact HB9.out | (with_reducible refine Below.drew ?_))) (p := ⟨Bs, 0, none⟩) hBsr2).trans hbs⟩) (fun hHeld => ?_)
                  clear hK K
                  (repeat (first | simp only [Act.put] | simp only [List.setIfInBounds_toArray] | simp only [List.set_cons_zero] | simp only [List.set_cons_succ]))
                  by_cases hxl : x < last
                  · skip
                    have hxl1 : (x : Int) < (last : Int) := by omega
                    have HFn := Lib.hid (show f = false by rw [HF.out, decide_eq_true hxl]; simp)
                    have hxlX := Lib.hid hxl
                    refine takeD (i := 32) (d := some 51) (v := ?_) rfl rfl (by kernel_rfl) (by kernel_rfl) (by kernel_rfl) (fun _ _ _ h => h) (Or.inl ⟨by rfl, ?_⟩) hHeld ?_
                    rotate_left 1
                    focus (intro w hSw; (try dsimp only at hSw); go_simp; (try with_reducible rfl))
                    (repeat (first | simp only [Act.put] | simp only [List.setIfInBounds_toArray] | simp only [List.set_cons_zero] | simp only [List.set_cons_succ]))
                    refine takeD (i := 33) (d := some 52) (v := ?_) rfl rfl (by kernel_rfl) (by kernel_rfl) (by kernel_rfl) (fun _ _ _ h => h) (Or.inl ⟨by rfl, ?_⟩) hHeld ?_
                    rotate_left 1
                    focus (intro w hSw; (try dsimp only at hSw); go_simp; (try with_reducible rfl))
                    (repeat (first | simp only [Act.put] | simp only [List.setIfInBounds_toArray] | simp only [List.set_cons_zero] | simp only [List.set_cons_succ]))
                    refine wpAnyH_done (by kernel_rfl) ?_ _
                    have hz : f = false := HFn.out
                    go_wp2_with fail
                    go_meet
                    case rel => exact ⟨rfl, by rw [hz]; rfl, Lib.hid (by repeat (first | with_reducible exact Below.refl _ _ | with_reducible exact HB9.out | (with_reducible refine Below.drew ?_)))⟩
                  · skip
                    have hxl1 : ¬ (x : Int) < (last : Int) := by omega
                    have hxl2 : decide (x < last) = false := decide_eq_false hxl
                    have HFy := Lib.hid (show f = true by
                      rw [HF.out, decide_eq_false hxl]; unfold fitS
                      rw [HGD.out, ← HKD.out, decide_eq_true (show kd % 2 = 1 from hoX.out), decide_eq_true (show a + j = a by have := hjX.out; omega), decide_eq_true (show genS s = g by rw [← HX.out, ← HY.out]; exact hxyX.out)]; rfl)
                    have hxlX := Lib.hid hxl
                    refine takeD (i := 32) (d := some 51) (v := ?_) rfl rfl (by kernel_rfl) (by kernel_rfl) (by kernel_rfl) (fun _ _ _ h => h) (Or.inl ⟨by rfl, ?_⟩) hHeld ?_
                    rotate_left 1
                    focus (intro w hSw; (try dsimp only at hSw); go_simp; (try with_reducible rfl))
                    (repeat (first | simp only [Act.put] | simp only [List.setIfInBounds_toArray] | simp only [List.set_cons_zero] | simp only [List.set_cons_succ]))
                    refine takeD (i := 33) (d := some 52) (v := ?_) rfl rfl (by kernel_rfl) (by kernel_rfl) (by kernel_rfl) (fun _ _ _ h => h) (Or.inl ⟨by rfl, ?_⟩) hHeld ?_
                    rotate_left 1
                    focus (intro w hSw; (try dsimp only at hSw); go_simp; (try with_reducible rfl))
                    (repeat (first | simp only [Act.put] | simp only [List.setIfInBounds_toArray] | simp only [List.set_cons_zero] | simp only [List.set_cons_succ]))
                    refine wpAnyH_done (by kernel_rfl) ?_ _
                    have hz : f = true := HFy.out
                    go_wp2_with fail
                    go_meet
                    case rel => exact ⟨rfl, by rw [hz]; rfl, Lib.hid (by repeat (first | with_reducible exact Below.refl _ _ | with_reducible exact HB9.out | (with_reducible refine Below.drew ?_)))⟩
                · skip
                  have hxy1 : ((x : Int) != (z : Int)) = true := by rw [bne_iff_ne]; omega
                  have HFn := Lib.hid (show f = false by
                    rw [HF.out]; unfold fitS
                    rw [HGD.out, ← HKD.out, decide_eq_true (show kd % 2 = 1 from hoX.out), decide_eq_true (show a + j = a by have := hjX.out; omega), decide_eq_false (show ¬ genS s = g by rw [← HX.out, ← HY.out]; exact hxy)]; rfl)
                  have hxyX := Lib.hid hxy
                  clear hxy
                  refine takeD (i := 25) (d := some 44) (v := ?_) rfl rfl (by kernel_rfl) (by kernel_rfl) (by kernel_rfl) (fun _ _ _ h => h) (Or.inl ⟨by rfl, ?_⟩) hHeld ?_
                  rotate_left 1
                  focus (intro w hSw; (try dsimp only at hSw); go_simp; (try with_reducible rfl))
                  (repeat (first | simp only [Act.put] | simp only [List.setIfInBounds_toArray] | simp only [List.set_cons_zero] | simp only [List.set_cons_succ]))
                  refine takeD (i := 26) (d := some 45) (v := ?_) rfl rfl (by kernel_rfl) (by kernel_rfl) (by kernel_rfl) (fun _ _ _ h => h) (Or.inl ⟨by rfl, ?_⟩) hHeld ?_
                  rotate_left 1
                  focus (intro w hSw; (try dsimp only at hSw); go_simp; (try with_reducible rfl))
                  (repeat (first | simp only [Act.put] | simp only [List.setIfInBounds_toArray] | simp only [List.set_cons_zero] | simp only [List.set_cons_succ]))
                  refine takeD (i := 27) (d := some 46) (v := ?_) rfl rfl (by kernel_rfl) (by kernel_rfl) (by kernel_rfl) (fun _ _ _ h => h) (Or.inl ⟨by rfl, ?_⟩) hHeld ?_
                  rotate_left 1
                  focus (intro w hSw; (try dsimp only at hSw); go_simp; (try with_reducible rfl))
                  (repeat (first | simp only [Act.put] | simp only [List.setIfInBounds_toArray] | simp only [List.set_cons_zero] | simp only [List.set_cons_succ]))
                  refine takeD (i := 28) (d := some 47) (v := undef) rfl rfl (by kernel_rfl) (by kernel_rfl) (by kernel_rfl) (fun _ _ _ h => h) (Or.inr ⟨by rfl, rfl⟩) hHeld ?_
                  (repeat (first | simp only [Act.put] | simp only [List.setIfInBounds_toArray] | simp only [List.set_cons_zero] | simp only [List.set_cons_succ]))
                  refine takeD (i := 29) (d := some 48) (v := undef) rfl rfl (by kernel_rfl) (by kernel_rfl) (by kernel_rfl) (fun _ _ _ h => h) (Or.inr ⟨by rfl, rfl⟩) hHeld ?_
                  (repeat (first | simp only [Act.put] | simp only [List.setIfInBounds_toArray] | simp only [List.set_cons_zero] | simp only [List.set_cons_succ]))
                  refine takeD (i := 30) (d := some 49) (v := undef) rfl rfl (by kernel_rfl) (by kernel_rfl) (by kernel_rfl) (fun _ _ _ h => h) (Or.inr ⟨by rfl, rfl⟩) hHeld ?_
                  (repeat (first | simp only [Act.put] | simp only [List.setIfInBounds_toArray] | simp only [List.set_cons_zero] | simp only [List.set_cons_succ]))
                  refine takeD (i := 31) (d := some 50) (v := undef) rfl rfl (by kernel_rfl) (by kernel_rfl) (by kernel_rfl) (fun _ _ _ h => h) (Or.inr ⟨by rfl, rfl⟩) hHeld ?_
                  (repeat (first | simp only [Act.put] | simp only [List.setIfInBounds_toArray] | simp only [List.set_cons_zero] | simp only [List.set_cons_succ]))
                  refine takeD (i := 32) (d := some 51) (v := undef) rfl rfl (by kernel_rfl) (by kernel_rfl) (by kernel_rfl) (fun _ _ _ h => h) (Or.inr ⟨by rfl, rfl⟩) hHeld ?_
                  (repeat (first | simp only [Act.put] | simp only [List.setIfInBounds_toArray] | simp only [List.set_cons_zero] | simp only [List.set_cons_succ]))
                  refine takeD (i := 33) (d := some 52) (v := ?_) rfl rfl (by kernel_rfl) (by kernel_rfl) (by kernel_rfl) (fun _ _ _ h => h) (Or.inl ⟨by rfl, ?_⟩) hHeld ?_
                  rotate_left 1
                  focus (intro w hSw; (try dsimp only at hSw); go_simp; (try with_reducible rfl))
                  (repeat (first | simp only [Act.put] | simp only [List.setIfInBounds_toArray] | simp only [List.set_cons_zero] | simp only [List.set_cons_succ]))
                  refine wpAnyH_done (by kernel_rfl) ?_ _
                  have hz : f = false := HFn.out
                  go_wp2_with fail
                  go_meet
                  case rel => exact ⟨rfl, by rw [hz]; rfl, Lib.hid (by repeat (first | with_reducible exact Below.refl _ _ | with_reducible exact HB9.out | (with_reducible refine Below.drew ?_)))⟩
              · skip
                have hi1 : (((a + j : Nat) : Int) == (a : Int)) = false := by rw [beq_eq_false_iff_ne]; omega
                have hi2 : (a + j == a) = false := by rw [beq_eq_false_iff_ne]; omega
                have hi3 : ((a : Int) + (j : Int) == (a : Int)) = false := by rw [beq_eq_false_iff_ne]; omega
                have hjX := Lib.hid hj0
                clear hj0
                have HFn := Lib.hid (show f = false by
                  rw [HF.out]; unfold fitS
                  rw [HGD.out, ← HKD.out, decide_eq_true (show kd % 2 = 1 from hoX.out), decide_eq_false (show ¬ a + j = a by have := hjX.out; omega)]; rfl)
                refine takeD (i := 8) (d := some 27) (v := ?_) rfl rfl (by kernel_rfl) (by kernel_rfl) (by kernel_rfl) (fun _ _ _ h => h) (Or.inl ⟨by rfl, ?_⟩) hHeld ?_
                rotate_left 1
                focus (intro w hSw; (try dsimp only at hSw); go_simp; (try with_reducible rfl))
                (repeat (first | simp only [Act.put] | simp only [List.setIfInBounds_toArray] | simp only [List.set_cons_zero] | simp only [List.set_cons_succ]))
                refine takeD (i := 9) (d := some 28) (v := ?_) rfl rfl (by kernel_rfl) (by kernel_rfl) (by kernel_rfl) (fun _ _ _ h => h) (Or.inl ⟨by rfl, ?_⟩) hHeld ?_
                rotate_left 1
                focus (intro w hSw; (try dsimp only at hSw); go_simp; (try with_reducible rfl))
                (repeat (first | simp only [Act.put] | simp only [List.setIfInBounds_toArray] | simp only [List.set_cons_zero] | simp only [List.set_cons_succ]))
                refine takeD (i := 10) (d := some 29) (v := ?_) rfl rfl (by kernel_rfl) (by kernel_rfl) (by kernel_rfl) (fun _ _ _ h => h) (Or.inl ⟨by rfl, ?_⟩) hHeld ?_
                rotate_left 1
                focus (intro w hSw; (try dsimp only at hSw); go_simp; (try with_reducible rfl))
                (repeat (first | simp only [Act.put] | simp only [List.setIfInBounds_toArray] | simp only [List.set_cons_zero] | simp only [List.set_cons_succ]))
                refine takeD (i := 11) (d := some 30) (v := ?_) rfl rfl (by kernel_rfl) (by kernel_rfl) (by kernel_rfl) (fun _ _ _ h => h) (Or.inl ⟨by rfl, ?_⟩) hHeld ?_
                rotate_left 1
                focus (intro w hSw; (try dsimp only at hSw); go_simp; (try with_reducible rfl))
                (repeat (first | simp only [Act.put] | simp only [List.setIfInBounds_toArray] | simp only [List.set_cons_zero] | simp only [List.set_cons_succ]))
                refine takeD (i := 12) (d := some 31) (v := ?_) rfl rfl (by kernel_rfl) (by kernel_rfl) (by kernel_rfl) (fun _ _ _ h => h) (Or.inl ⟨by rfl, ?_⟩) hHeld ?_
                rotate_left 1
                focus (intro w hSw; (try dsimp only at hSw); go_simp; (try with_reducible rfl))
                (repeat (first | simp only [Act.put] | simp only [List.setIfInBounds_toArray] | simp only [List.set_cons_zero] | simp only [List.set_cons_succ]))
                refine takeD (i := 13) (d := some 32) (v := ?_) rfl rfl (by kernel_rfl) (by kernel_rfl) (by kernel_rfl) (fun _ _ _ h => h) (Or.inl ⟨by rfl, ?_⟩) hHeld ?_
                rotate_left 1
                focus (intro w hSw; (try dsimp only at hSw); go_simp; (try with_reducible rfl))
                (repeat (first | simp only [Act.put] | simp only [List.setIfInBounds_toArray] | simp only [List.set_cons_zero] | simp only [List.set_cons_succ]))
                refine takeD (i := 14) (d := some 33) (v := ?_) rfl rfl (by kernel_rfl) (by kernel_rfl) (by kernel_rfl) (fun _ _ _ h => h) (Or.inl ⟨by rfl, ?_⟩) hHeld ?_
                rotate_left 1
                focus (intro w hSw; (try dsimp only at hSw); go_simp; (try with_reducible rfl))
                (repeat (first | simp only [Act.put] | simp only [List.setIfInBounds_toArray] | simp only [List.set_cons_zero] | simp only [List.set_cons_succ]))
                refine takeD (i := 15) (d := some 34) (v := ?_) rfl rfl (by kernel_rfl) (by kernel_rfl) (by kernel_rfl) (fun _ _ _ h => h) (Or.inl ⟨by rfl, ?_⟩) hHeld ?_
                rotate_left 1
                focus (intro w hSw; (try dsimp only at hSw); go_simp; (try with_reducible rfl))
                (repeat (first | simp only [Act.put] | simp only [List.setIfInBounds_toArray] | simp only [List.set_cons_zero] | simp only [List.set_cons_succ]))
                refine takeD (i := 16) (d := some 35) (v := undef) rfl rfl (by kernel_rfl) (by kernel_rfl) (by kernel_rfl) (fun _ _ _ h => h) (Or.inr ⟨by rfl, rfl⟩) hHeld ?_
                (repeat (first | simp only [Act.put] | simp only [List.setIfInBounds_toArray] | simp only [List.set_cons_zero] | simp only [List.set_cons_succ]))
                refine takeD (i := 17) (d := some 36) (v := undef) rfl rfl (by kernel_rfl) (by kernel_rfl) (by kernel_rfl) (fun _ _ _ h => h) (Or.inr ⟨by rfl, rfl⟩) hHeld ?_
                (repeat (first | simp only [Act.put] | simp only [List.setIfInBounds_toArray] | simp only [List.set_cons_zero] | simp only [List.set_cons_succ]))
                refine takeD (i := 18) (d := some 37) (v := undef) rfl rfl (by kernel_rfl) (by kernel_rfl) (by kernel_rfl) (fun _ _ _ h => h) (Or.inr ⟨by rfl, rfl⟩) hHeld ?_
                (repeat (first | simp only [Act.put] | simp only [List.setIfInBounds_toArray] | simp only [List.set_cons_zero] | simp only [List.set_cons_succ]))
                refine takeD (i := 19) (d := some 38) (v := undef) rfl rfl (by kernel_rfl) (by kernel_rfl) (by kernel_rfl) (fun _ _ _ h => h) (Or.inr ⟨by rfl, rfl⟩) hHeld ?_
                (repeat (first | simp only [Act.put] | simp only [List.setIfInBounds_toArray] | simp only [List.set_cons_zero] | simp only [List.set_cons_succ]))
                refine takeD (i := 20) (d := some 39) (v := undef) rfl rfl (by kernel_rfl) (by kernel_rfl) (by kernel_rfl) (fun _ _ _ h => h) (Or.inr ⟨by rfl, rfl⟩) hHeld ?_
                (repeat (first | simp only [Act.put] | simp only [List.setIfInBounds_toArray] | simp only [List.set_cons_zero] | simp only [List.set_cons_succ]))
                refine takeD (i := 21) (d := some 40) (v := undef) rfl rfl (by kernel_rfl) (by kernel_rfl) (by kernel_rfl) (fun _ _ _ h => h) (Or.inr ⟨by rfl, rfl⟩) hHeld ?_
                (repeat (first | simp only [Act.put] | simp only [List.setIfInBounds_toArray] | simp only [List.set_cons_zero] | simp only [List.set_cons_succ]))
                refine takeD (i := 22) (d := some 41) (v := undef) rfl rfl (by kernel_rfl) (by kernel_rfl) (by kernel_rfl) (fun _ _ _ h => h) (Or.inr ⟨by rfl, rfl⟩) hHeld ?_
                (repeat (first | simp only [Act.put] | simp only [List.setIfInBounds_toArray] | simp only [List.set_cons_zero] | simp only [List.set_cons_succ]))
                refine takeD (i := 23) (d := some 42) (v := undef) rfl rfl (by kernel_rfl) (by kernel_rfl) (by kernel_rfl) (fun _ _ _ h => h) (Or.inr ⟨by rfl, rfl⟩) hHeld ?_
                (repeat (first | simp only [Act.put] | simp only [List.setIfInBounds_toArray] | simp only [List.set_cons_zero] | simp only [List.set_cons_succ]))
                refine takeD (i := 24) (d := some 43) (v := undef) rfl rfl (by kernel_rfl) (by kernel_rfl) (by kernel_rfl) (fun _ _ _ h => h) (Or.inr ⟨by rfl, rfl⟩) hHeld ?_
                (repeat (first | simp only [Act.put] | simp only [List.setIfInBounds_toArray] | simp only [List.set_cons_zero] | simp only [List.set_cons_succ]))
                refine takeD (i := 25) (d := some 44) (v := undef) rfl rfl (by kernel_rfl) (by kernel_rfl) (by kernel_rfl) (fun _ _ _ h => h) (Or.inr ⟨by rfl, rfl⟩) hHeld ?_
                (repeat (first | simp only [Act.put] | simp only [List.setIfInBounds_toArray] | simp only [List.set_cons_zero] | simp only [List.set_cons_succ]))
                refine takeD (i := 26) (d := some 45) (v := ?_) rfl rfl (by kernel_rfl) (by kernel_rfl) (by kernel_rfl) (fun _ _ _ h => h) (Or.inl ⟨by rfl, ?_⟩) hHeld ?_
                rotate_left 1
                focus (intro w hSw; (try dsimp only at hSw); go_simp; (try with_reducible rfl))
                (repeat (first | simp only [Act.put] | simp only [List.setIfInBounds_toArray] | simp only [List.set_cons_zero] | simp only [List.set_cons_succ]))
                refine takeD (i := 27) (d := some 46) (v := ?_) rfl rfl (by kernel_rfl) (by kernel_rfl) (by kernel_rfl) (fun _ _ _ h => h) (Or.inl ⟨by rfl, ?_⟩) hHeld ?_
                rotate_left 1
                focus (intro w hSw; (try dsimp only at hSw); go_simp; (try with_reducible rfl))
                (repeat (first | simp only [Act.put] | simp only [List.setIfInBounds_toArray] | simp only [List.set_cons_zero] | simp only [List.set_cons_succ]))
                refine takeD (i := 28) (d := some 47) (v := undef) rfl rfl (by kernel_rfl) (by kernel_rfl) (by kernel_rfl) (fun _ _ _ h => h) (Or.inr ⟨by rfl, rfl⟩) hHeld ?_
                (repeat (first | simp only [Act.put] | simp only [List.setIfInBounds_toArray] | simp only [List.set_cons_zero] | simp only [List.set_cons_succ]))
                refine takeD (i := 29) (d := some 48) (v := undef) rfl rfl (by kernel_rfl) (by kernel_rfl) (by kernel_rfl) (fun _ _ _ h => h) (Or.inr ⟨by rfl, rfl⟩) hHeld ?_
                (repeat (first | simp only [Act.put] | simp only [List.setIfInBounds_toArray] | simp only [List.set_cons_zero] | simp only [List.set_cons_succ]))
                refine takeD (i := 30) (d := some 49) (v := undef) rfl rfl (by kernel_rfl) (by kernel_rfl) (by kernel_rfl) (fun _ _ _ h => h) (Or.inr ⟨by rfl, rfl⟩) hHeld ?_
                (repeat (first | simp only [Act.put] | simp only [List.setIfInBounds_toArray] | simp only [List.set_cons_zero] | simp only [List.set_cons_succ]))
                refine takeD (i := 31) (d := some 50) (v := undef) rfl rfl (by kernel_rfl) (by kernel_rfl) (by kernel_rfl) (fun _ _ _ h => h) (Or.inr ⟨by rfl, rfl⟩) hHeld ?_
                (repeat (first | simp only [Act.put] | simp only [List.setIfInBounds_toArray] | simp only [List.set_cons_zero] | simp only [List.set_cons_succ]))
                refine takeD (i := 32) (d := some 51) (v := undef) rfl rfl (by kernel_rfl) (by kernel_rfl) (by kernel_rfl) (fun _ _ _ h => h) (Or.inr ⟨by rfl, rfl⟩) hHeld ?_
                (repeat (first | simp only [Act.put] | simp only [List.setIfInBounds_toArray] | simp only [List.set_cons_zero] | simp only [List.set_cons_succ]))
                refine takeD (i := 33) (d := some 52) (v := ?_) rfl rfl (by kernel_rfl) (by kernel_rfl) (by kernel_rfl) (fun _ _ _ h => h) (Or.inl ⟨by rfl, ?_⟩) hHeld ?_
                rotate_left 1
                focus (intro w hSw; (try dsimp only at hSw); go_simp; (try with_reducible rfl))
                (repeat (first | simp only [Act.put] | simp only [List.setIfInBounds_toArray] | simp only [List.set_cons_zero] | simp only [List.set_cons_succ]))
                refine wpAnyH_done (by kernel_rfl) ?_ _
                have hz : f = false := HFn.out
                go_wp2_with fail
                go_meet
                case rel => exact ⟨rfl, by rw [hz]; rfl, Lib.hid (by repeat (first | with_reducible exact Below.refl _ _ | with_reducible exact HB9.out | (with_reducible refine Below.drew ?_)))⟩
            · skip
              have ho0 : bits .and .u8 (kd : Int) 1 = 0 := by rw [show (1 : Int) = ((1 : Nat) : Int) from rfl, u8_and_nat kd 1 hkl (by omega), nat_mask1]; omega
              have hoX := Lib.hid ho
              clear ho
              by_cases hj0 : j = 0
              · skip
                have hi1 : (((a + j : Nat) : Int) == (a : Int)) = true := by rw [beq_iff_eq]; omega
                have hi2 : (a + j == a) = true := by rw [beq_iff_eq]; omega
                have hi3 : ((a : Int) + (j : Int) == (a : Int)) = true := by rw [beq_iff_eq]; omega
                have hjX := Lib.hid hj0
                clear hj0
                have HFn := Lib.hid (show f = false by
                  rw [HF.out]; unfold fitS
                  rw [HGD.out, ← HKD.out, decide_eq_false (show ¬ kd % 2 = 1 from hoX.out), decide_eq_true (show a + j = a by have := hjX.out; omega)]; rfl)
                refine takeD (i := 8) (d := some 27) (v := ?_) rfl rfl (by kernel_rfl) (by kernel_rfl) (by kernel_rfl) (fun _ _ _ h => h) (Or.inl ⟨by rfl, ?_⟩) hHeld ?_
                rotate_left 1
                focus (intro w hSw; (try dsimp only at hSw); go_simp; (try with_reducible rfl))
                (repeat (first | simp only [Act.put] | simp only [List.setIfInBounds_toArray] | simp only [List.set_cons_zero] | simp only [List.set_cons_succ]))
                refine takeD (i := 9) (d := some 28) (v := ?_) rfl rfl (by kernel_rfl) (by kernel_rfl) (by kernel_rfl) (fun _ _ _ h => h) (Or.inl ⟨by rfl, ?_⟩) hHeld ?_
                rotate_left 1
                focus (intro w hSw; (try dsimp only at hSw); go_simp; (try with_reducible rfl))
                (repeat (first | simp only [Act.put] | simp only [List.setIfInBounds_toArray] | simp only [List.set_cons_zero] | simp only [List.set_cons_succ]))
                refine takeD (i := 10) (d := some 29) (v := ?_) rfl rfl (by kernel_rfl) (by kernel_rfl) (by kernel_rfl) (fun _ _ _ h => h) (Or.inl ⟨by rfl, ?_⟩) hHeld ?_
                rotate_left 1
                focus (intro w hSw; (try dsimp only at hSw); go_simp; (try with_reducible rfl))
                (repeat (first | simp only [Act.put] | simp only [List.setIfInBounds_toArray] | simp only [List.set_cons_zero] | simp only [List.set_cons_succ]))
                refine takeD (i := 11) (d := some 30) (v := ?_) rfl rfl (by kernel_rfl) (by kernel_rfl) (by kernel_rfl) (fun _ _ _ h => h) (Or.inl ⟨by rfl, ?_⟩) hHeld ?_
                rotate_left 1
                focus (intro w hSw; (try dsimp only at hSw); go_simp; (try with_reducible rfl))
                (repeat (first | simp only [Act.put] | simp only [List.setIfInBounds_toArray] | simp only [List.set_cons_zero] | simp only [List.set_cons_succ]))
                refine takeD (i := 12) (d := some 31) (v := ?_) rfl rfl (by kernel_rfl) (by kernel_rfl) (by kernel_rfl) (fun _ _ _ h => h) (Or.inl ⟨by rfl, ?_⟩) hHeld ?_
                rotate_left 1
                focus (intro w hSw; (try dsimp only at hSw); go_simp; (try with_reducible rfl))
                (repeat (first | simp only [Act.put] | simp only [List.setIfInBounds_toArray] | simp only [List.set_cons_zero] | simp only [List.set_cons_succ]))
                refine takeD (i := 13) (d := some 32) (v := ?_) rfl rfl (by kernel_rfl) (by kernel_rfl) (by kernel_rfl) (fun _ _ _ h => h) (Or.inl ⟨by rfl, ?_⟩) hHeld ?_
                rotate_left 1
                focus (intro w hSw; (try dsimp only at hSw); go_simp; (try with_reducible rfl))
                (repeat (first | simp only [Act.put] | simp only [List.setIfInBounds_toArray] | simp only [List.set_cons_zero] | simp only [List.set_cons_succ]))
                refine takeD (i := 14) (d := some 33) (v := ?_) rfl rfl (by kernel_rfl) (by kernel_rfl) (by kernel_rfl) (fun _ _ _ h => h) (Or.inl ⟨by rfl, ?_⟩) hHeld ?_
                rotate_left 1
                focus (intro w hSw; (try dsimp only at hSw); go_simp; (try with_reducible rfl))
                (repeat (first | simp only [Act.put] | simp only [List.setIfInBounds_toArray] | simp only [List.set_cons_zero] | simp only [List.set_cons_succ]))
                refine takeD (i := 15) (d := some 34) (v := ?_) rfl rfl (by kernel_rfl) (by kernel_rfl) (by kernel_rfl) (fun _ _ _ h => h) (Or.inl ⟨by rfl, ?_⟩) hHeld ?_
                rotate_left 1
                focus (intro w hSw; (try dsimp only at hSw); go_simp; (try with_reducible rfl))
                (repeat (first | simp only [Act.put] | simp only [List.setIfInBounds_toArray] | simp only [List.set_cons_zero] | simp only [List.set_cons_succ]))
                refine takeD (i := 16) (d := some 35) (v := undef) rfl rfl (by kernel_rfl) (by kernel_rfl) (by kernel_rfl) (fun _ _ _ h => h) (Or.inr ⟨by rfl, rfl⟩) hHeld ?_
                (repeat (first | simp only [Act.put] | simp only [List.setIfInBounds_toArray] | simp only [List.set_cons_zero] | simp only [List.set_cons_succ]))
                refine takeD (i := 17) (d := some 36) (v := undef) rfl rfl (by kernel_rfl) (by kernel_rfl) (by kernel_rfl) (fun _ _ _ h => h) (Or.inr ⟨by rfl, rfl⟩) hHeld ?_
                (repeat (first | simp only [Act.put] | simp only [List.setIfInBounds_toArray] | simp only [List.set_cons_zero] | simp only [List.set_cons_succ]))
                refine takeD (i := 18) (d := some 37) (v := undef) rfl rfl (by kernel_rfl) (by kernel_rfl) (by kernel_rfl) (fun _ _ _ h => h) (Or.inr ⟨by rfl, rfl⟩) hHeld ?_
                (repeat (first | simp only [Act.put] | simp only [List.setIfInBounds_toArray] | simp only [List.set_cons_zero] | simp only [List.set_cons_succ]))
                refine takeD (i := 19) (d := some 38) (v := undef) rfl rfl (by kernel_rfl) (by kernel_rfl) (by kernel_rfl) (fun _ _ _ h => h) (Or.inr ⟨by rfl, rfl⟩) hHeld ?_
                (repeat (first | simp only [Act.put] | simp only [List.setIfInBounds_toArray] | simp only [List.set_cons_zero] | simp only [List.set_cons_succ]))
                refine takeD (i := 20) (d := some 39) (v := undef) rfl rfl (by kernel_rfl) (by kernel_rfl) (by kernel_rfl) (fun _ _ _ h => h) (Or.inr ⟨by rfl, rfl⟩) hHeld ?_
                (repeat (first | simp only [Act.put] | simp only [List.setIfInBounds_toArray] | simp only [List.set_cons_zero] | simp only [List.set_cons_succ]))
                refine takeD (i := 21) (d := some 40) (v := undef) rfl rfl (by kernel_rfl) (by kernel_rfl) (by kernel_rfl) (fun _ _ _ h => h) (Or.inr ⟨by rfl, rfl⟩) hHeld ?_
                (repeat (first | simp only [Act.put] | simp only [List.setIfInBounds_toArray] | simp only [List.set_cons_zero] | simp only [List.set_cons_succ]))
                refine takeD (i := 22) (d := some 41) (v := undef) rfl rfl (by kernel_rfl) (by kernel_rfl) (by kernel_rfl) (fun _ _ _ h => h) (Or.inr ⟨by rfl, rfl⟩) hHeld ?_
                (repeat (first | simp only [Act.put] | simp only [List.setIfInBounds_toArray] | simp only [List.set_cons_zero] | simp only [List.set_cons_succ]))
                refine takeD (i := 23) (d := some 42) (v := undef) rfl rfl (by kernel_rfl) (by kernel_rfl) (by kernel_rfl) (fun _ _ _ h => h) (Or.inr ⟨by rfl, rfl⟩) hHeld ?_
                (repeat (first | simp only [Act.put] | simp only [List.setIfInBounds_toArray] | simp only [List.set_cons_zero] | simp only [List.set_cons_succ]))
                refine takeD (i := 24) (d := some 43) (v := undef) rfl rfl (by kernel_rfl) (by kernel_rfl) (by kernel_rfl) (fun _ _ _ h => h) (Or.inr ⟨by rfl, rfl⟩) hHeld ?_
                (repeat (first | simp only [Act.put] | simp only [List.setIfInBounds_toArray] | simp only [List.set_cons_zero] | simp only [List.set_cons_succ]))
                refine takeD (i := 25) (d := some 44) (v := undef) rfl rfl (by kernel_rfl) (by kernel_rfl) (by kernel_rfl) (fun _ _ _ h => h) (Or.inr ⟨by rfl, rfl⟩) hHeld ?_
                (repeat (first | simp only [Act.put] | simp only [List.setIfInBounds_toArray] | simp only [List.set_cons_zero] | simp only [List.set_cons_succ]))
                refine takeD (i := 26) (d := some 45) (v := ?_) rfl rfl (by kernel_rfl) (by kernel_rfl) (by kernel_rfl) (fun _ _ _ h => h) (Or.inl ⟨by rfl, ?_⟩) hHeld ?_
                rotate_left 1
                focus (intro w hSw; (try dsimp only at hSw); go_simp; (try with_reducible rfl))
                (repeat (first | simp only [Act.put] | simp only [List.setIfInBounds_toArray] | simp only [List.set_cons_zero] | simp only [List.set_cons_succ]))
                refine takeD (i := 27) (d := some 46) (v := ?_) rfl rfl (by kernel_rfl) (by kernel_rfl) (by kernel_rfl) (fun _ _ _ h => h) (Or.inl ⟨by rfl, ?_⟩) hHeld ?_
                rotate_left 1
                focus (intro w hSw; (try dsimp only at hSw); go_simp; (try with_reducible rfl))
                (repeat (first | simp only [Act.put] | simp only [List.setIfInBounds_toArray] | simp only [List.set_cons_zero] | simp only [List.set_cons_succ]))
                refine takeD (i := 28) (d := some 47) (v := undef) rfl rfl (by kernel_rfl) (by kernel_rfl) (by kernel_rfl) (fun _ _ _ h => h) (Or.inr ⟨by rfl, rfl⟩) hHeld ?_
                (repeat (first | simp only [Act.put] | simp only [List.setIfInBounds_toArray] | simp only [List.set_cons_zero] | simp only [List.set_cons_succ]))
                refine takeD (i := 29) (d := some 48) (v := undef) rfl rfl (by kernel_rfl) (by kernel_rfl) (by kernel_rfl) (fun _ _ _ h => h) (Or.inr ⟨by rfl, rfl⟩) hHeld ?_
                (repeat (first | simp only [Act.put] | simp only [List.setIfInBounds_toArray] | simp only [List.set_cons_zero] | simp only [List.set_cons_succ]))
                refine takeD (i := 30) (d := some 49) (v := undef) rfl rfl (by kernel_rfl) (by kernel_rfl) (by kernel_rfl) (fun _ _ _ h => h) (Or.inr ⟨by rfl, rfl⟩) hHeld ?_
                (repeat (first | simp only [Act.put] | simp only [List.setIfInBounds_toArray] | simp only [List.set_cons_zero] | simp only [List.set_cons_succ]))
                refine takeD (i := 31) (d := some 50) (v := undef) rfl rfl (by kernel_rfl) (by kernel_rfl) (by kernel_rfl) (fun _ _ _ h => h) (Or.inr ⟨by rfl, rfl⟩) hHeld ?_
                (repeat (first | simp only [Act.put] | simp only [List.setIfInBounds_toArray] | simp only [List.set_cons_zero] | simp only [List.set_cons_succ]))
                refine takeD (i := 32) (d := some 51) (v := undef) rfl rfl (by kernel_rfl) (by kernel_rfl) (by kernel_rfl) (fun _ _ _ h => h) (Or.inr ⟨by rfl, rfl⟩) hHeld ?_
                (repeat (first | simp only [Act.put] | simp only [List.setIfInBounds_toArray] | simp only [List.set_cons_zero] | simp only [List.set_cons_succ]))
                refine takeD (i := 33) (d := some 52) (v := ?_) rfl rfl (by kernel_rfl) (by kernel_rfl) (by kernel_rfl) (fun _ _ _ h => h) (Or.inl ⟨by rfl, ?_⟩) hHeld ?_
                rotate_left 1
                focus (intro w hSw; (try dsimp only at hSw); go_simp; (try with_reducible rfl))
                (repeat (first | simp only [Act.put] | simp only [List.setIfInBounds_toArray] | simp only [List.set_cons_zero] | simp only [List.set_cons_succ]))
                refine wpAnyH_done (by kernel_rfl) ?_ _
                have hz : f = false := HFn.out
                go_wp2_with fail
                go_meet
                case rel => exact ⟨rfl, by rw [hz]; rfl, Lib.hid (by repeat (first | with_reducible exact Below.refl _ _ | with_reducible exact HB9.out | (with_reducible refine Below.drew ?_)))⟩
              · skip
                have hi1 : (((a + j : Nat) : Int) == (a : Int)) = false := by rw [beq_eq_false_iff_ne]; omega
                have hi2 : (a + j == a) = false := by rw [beq_eq_false_iff_ne]; omega
                have hi3 : ((a : Int) + (j : Int) == (a : Int)) = false := by rw [beq_eq_false_iff_ne]; omega
                have hjX := Lib.hid hj0
                clear hj0
                refine takeD (i := 8) (d := some 27) (v := ?_) rfl rfl (by kernel_rfl) (by kernel_rfl) (by kernel_rfl) (fun _ _ _ h => h) (Or.inl ⟨by rfl, ?_⟩) hHeld ?_
                rotate_left 1
                focus (intro w hSw; (try dsimp only at hSw); go_simp; (try with_reducible rfl))
                (repeat (first | simp only [Act.put] | simp only [List.setIfInBounds_toArray] | simp only [List.set_cons_zero] | simp only [List.set_cons_succ]))
                refine takeD (i := 9) (d := some 28) (v := ?_) rfl rfl (by kernel_rfl) (by kernel_rfl) (by kernel_rfl) (fun _ _ _ h => h) (Or.inl ⟨by rfl, ?_⟩) hHeld ?_
                rotate_left 1
                focus (intro w hSw; (try dsimp only at hSw); go_simp; (try with_reducible rfl))
                (repeat (first | simp only [Act.put] | simp only [List.setIfInBounds_toArray] | simp only [List.set_cons_zero] | simp only [List.set_cons_succ]))
                refine takeD (i := 10) (d := some 29) (v := ?_) rfl rfl (by kernel_rfl) (by kernel_rfl) (by kernel_rfl) (fun _ _ _ h => h) (Or.inl ⟨by rfl, ?_⟩) hHeld ?_
                rotate_left 1
                focus (intro w hSw; (try dsimp only at hSw); go_simp; (try with_reducible rfl))
                (repeat (first | simp only [Act.put] | simp only [List.setIfInBounds_toArray] | simp only [List.set_cons_zero] | simp only [List.set_cons_succ]))
                refine takeD (i := 11) (d := some 30) (v := ?_) rfl rfl (by kernel_rfl) (by kernel_rfl) (by kernel_rfl) (fun _ _ _ h => h) (Or.inl ⟨by rfl, ?_⟩) hHeld ?_
                rotate_left 1
                focus (intro w hSw; (try dsimp only at hSw); go_simp; (try with_reducible rfl))
                (repeat (first | simp only [Act.put] | simp only [List.setIfInBounds_toArray] | simp only [List.set_cons_zero] | simp only [List.set_cons_succ]))
                refine takeD (i := 12) (d := some 31) (v := ?_) rfl rfl (by kernel_rfl) (by kernel_rfl) (by kernel_rfl) (fun _ _ _ h => h) (Or.inl ⟨by rfl, ?_⟩) hHeld ?_
                rotate_left 1
                focus (intro w hSw; (try dsimp only at hSw); go_simp; (try with_reducible rfl))
                (repeat (first | simp only [Act.put] | simp only [List.setIfInBounds_toArray] | simp only [List.set_cons_zero] | simp only [List.set_cons_succ]))
                refine takeD (i := 13) (d := some 32) (v := ?_) rfl rfl (by kernel_rfl) (by kernel_rfl) (by kernel_rfl) (fun _ _ _ h => h) (Or.inl ⟨by rfl, ?_⟩) hHeld ?_
                rotate_left 1
                focus (intro w hSw; (try dsimp only at hSw); go_simp; (try with_reducible rfl))
                (repeat (first | simp only [Act.put] | simp only [List.setIfInBounds_toArray] | simp only [List.set_cons_zero] | simp only [List.set_cons_succ]))
                refine takeD (i := 14) (d := some 33) (v := ?_) rfl rfl (by kernel_rfl) (by kernel_rfl) (by kernel_rfl) (fun _ _ _ h => h) (Or.inl ⟨by rfl, ?_⟩) hHeld ?_
                rotate_left 1
                focus (intro w hSw; (try dsimp only at hSw); go_simp; (try with_reducible rfl))
                (repeat (first | simp only [Act.put] | simp only [List.setIfInBounds_toArray] | simp only [List.set_cons_zero] | simp only [List.set_cons_succ]))
                refine takeD (i := 15) (d := some 34) (v := ?_) rfl rfl (by kernel_rfl) (by kernel_rfl) (by kernel_rfl) (fun _ _ _ h => h) (Or.inl ⟨by rfl, ?_⟩) hHeld ?_
                rotate_left 1
                focus (intro w hSw; (try dsimp only at hSw); go_simp; (try with_reducible rfl))
                (repeat (first | simp only [Act.put] | simp only [List.setIfInBounds_toArray] | simp only [List.set_cons_zero] | simp only [List.set_cons_succ]))
                refine takeD (i := 16) (d := some 35) (v := ?_) rfl rfl (by kernel_rfl) (by kernel_rfl) (by kernel_rfl) (fun _ _ _ h => h) (Or.inl ⟨by rfl, ?_⟩) hHeld ?_
                rotate_left 1
                focus (intro w hSw; (try dsimp only at hSw); go_simp; (try with_reducible rfl))
                (repeat (first | simp only [Act.put] | simp only [List.setIfInBounds_toArray] | simp only [List.set_cons_zero] | simp only [List.set_cons_succ]))
                refine takeD (i := 17) (d := some 36) (v := ?_) rfl rfl (by kernel_rfl) (by kernel_rfl) (by kernel_rfl) (fun _ _ _ h => h) (Or.inl ⟨by rfl, ?_⟩) hHeld ?_
                rotate_left 1
                focus (intro w hSw; (try dsimp only at hSw); go_simp; (try with_reducible rfl))
                (repeat (first | simp only [Act.put] | simp only [List.setIfInBounds_toArray] | simp only [List.set_cons_zero] | simp only [List.set_cons_succ]))
                refine takeD (i := 19) (d := some 38) (v := ?_) rfl rfl (by kernel_rfl) (by kernel_rfl) (by kernel_rfl) (fun _ _ _ h => h) (Or.inl ⟨by rfl, ?_⟩) hHeld ?_
                rotate_left 1
                focus (intro w hSw; (try dsimp only at hSw); go_simp; (try with_reducible rfl))
                (repeat (first | simp only [Act.put] | simp only [List.setIfInBounds_toArray] | simp only [List.set_cons_zero] | simp only [List.set_cons_succ]))
                refine takeD (i := 20) (d := some 39) (v := ?_) rfl rfl (by kernel_rfl) (by kernel_rfl) (by kernel_rfl) (fun _ _ _ h => h) (Or.inl ⟨by rfl, ?_⟩) hHeld ?_
                rotate_left 1
                focus (intro w hSw; (try dsimp only at hSw); go_simp; (try with_reducible rfl))
                (repeat (first | simp only [Act.put] | simp only [List.setIfInBounds_toArray] | simp only [List.set_cons_zero] | simp only [List.set_cons_succ]))
                refine takeD (i := 21) (d := some 40) (v := ?_) rfl rfl (by kernel_rfl) (by kernel_rfl) (by kernel_rfl) (fun _ _ _ h => h) (Or.inl ⟨by rfl, ?_⟩) hHeld ?_
                rotate_left 1
                focus (intro w hSw; (try dsimp only at hSw); go_simp; (try with_reducible rfl))
                (repeat (first | simp only [Act.put] | simp only [List.setIfInBounds_toArray] | simp only [List.set_cons_zero] | simp only [List.set_cons_succ]))
                refine takeD (i := 22) (d := some 41) (v := ?_) rfl rfl (by kernel_rfl) (by kernel_rfl) (by kernel_rfl) (fun _ _ _ h => h) (Or.inl ⟨by rfl, ?_⟩) hHeld ?_
                rotate_left 1
                focus (intro w hSw; (try dsimp only at hSw); go_simp; (try with_reducible rfl))
                (repeat (first | simp only [Act.put] | simp only [List.setIfInBounds_toArray] | simp only [List.set_cons_zero] | simp only [List.set_cons_succ]))
                refine takeD (i := 23) (d := some 42) (v := ?_) rfl rfl (by kernel_rfl) (by kernel_rfl) (by kernel_rfl) (fun _ _ _ h => h) (Or.inl ⟨by rfl, ?_⟩) hHeld ?_
                rotate_left 1
                focus (intro w hSw; (try dsimp only at hSw); go_simp; (try with_reducible rfl))
                (repeat (first | simp only [Act.put] | simp only [List.setIfInBounds_toArray] | simp only [List.set_cons_zero] | simp only [List.set_cons_succ]))
                refine wpAnyH_ready (rs := [18]) (by kernel_rfl) (by simp) ?_
                refine AllReadyH.cons rfl (fun K hK => ?_) AllReadyH.nil
                go_simp
                go_at_call 41
                refine (CX.out _ (by repeat (first | with_reducible exact Below.refl _ _ | with_reducible exact HB9.out | (with_reducible refine Below.drew ?_)))).mono ?_
                rintro e w10 ⟨rfl, rfl⟩
                refine hK.out _ _ (⟨(Below.cell (by repeat (first | with_reducible exact Below.refl _ _ | with_reducible exact HB9.out | (with_reducible refine Below.drew ?_))) (p := ⟨sb, so + 10, none⟩) hsbr).trans h10, (Below.cell (by repeat (first | with_reducible exact Below.refl _ _ | with_reducible exact HB9.out | (with_reducible refine Below.drew ?_))) (p := ⟨lb, lo + a, none⟩) hlbr).trans hla, (Below.cell (by repeat (first | with_reducible exact Below.refl _ _ | with_reducible exact HB9.out | (with_reducible refine Below.drew ?_))) (p := ⟨Bs, 0, none⟩) hBsr2).trans hbs⟩) (fun hHeld => ?_)
                clear hK K
                (repeat (first | simp only [Act.put] | simp only [List.setIfInBounds_toArray] | simp only [List.set_cons_zero] | simp only [List.set_cons_succ]))
                refine wpAnyH_ready (rs := [24]) (by kernel_rfl) (by simp) ?_
                refine AllReadyH.cons rfl (fun K hK => ?_) AllReadyH.nil
                go_simp
                go_at_call 41
                refine (CY.out _ (by repeat (first | with_reducible exact Below.refl _ _ | with_reducible exact HB9.out | (with_reducible refine Below.drew ?_)))).mono ?_
                rintro e w10 ⟨rfl, rfl⟩
                refine hK.out _ _ (⟨(Below.cell (by repeat (first | with_reducible exact Below.refl _ _ | with_reducible exact HB9.out | (with_reducible refine Below.drew ?_))) (p := ⟨sb, so + 10, none⟩) hsbr).trans h10, (Below.cell (by repeat (first | with_reducible exact Below.refl _ _ | with_reducible exact HB9.out | (with_reducible refine Below.drew ?_))) (p := ⟨lb, lo + a, none⟩) hlbr).trans hla, (Below.cell (by repeat (first | with_reducible exact Below.refl _ _ | with_reducible exact HB9.out | (with_reducible refine Below.drew ?_))) (p := ⟨Bs, 0, none⟩) hBsr2).trans hbs⟩) (fun hHeld => ?_)
                clear hK K
                (repeat (first | simp only [Act.put] | simp only [List.setIfInBounds_toArray] | simp only [List.set_cons_zero] | simp only [List.set_cons_succ]))
                by_cases hxy : x = z
                · skip
                  have hxy1 : ((x : Int) != (z : Int)) = false := by rw [bne_eq_false_iff_eq]; omega
                  have hxyX := Lib.hid hxy
                  clear hxy
                  refine takeD (i := 25) (d := some 44) (v := ?_) rfl rfl (by kernel_rfl) (by kernel_rfl) (by kernel_rfl) (fun _ _ _ h => h) (Or.inl ⟨by rfl, ?_⟩) hHeld ?_
                  rotate_left 1
                  focus (intro w hSw; (try dsimp only at hSw); go_simp; (try with_reducible rfl))
                  (repeat (first | simp only [Act.put] | simp only [List.setIfInBounds_toArray] | simp only [List.set_cons_zero] | simp only [List.set_cons_succ]))
                  refine takeD (i := 26) (d := some 45) (v := ?_) rfl rfl (by kernel_rfl) (by kernel_rfl) (by kernel_rfl) (fun _ _ _ h => h) (Or.inl ⟨by rfl, ?_⟩) hHeld ?_
                  rotate_left 1
                  focus (intro w hSw; (try dsimp only at hSw); go_simp; (try with_reducible rfl))
                  (repeat (first | simp only [Act.put] | simp only [List.setIfInBounds_toArray] | simp only [List.set_cons_zero] | simp only [List.set_cons_succ]))
                  refine takeD (i := 27) (d := some 46) (v := ?_) rfl rfl (by kernel_rfl) (by kernel_rfl) (by kernel_rfl) (fun _ _ _ h => h) (Or.inl ⟨by rfl, ?_⟩) hHeld ?_
                  rotate_left 1
                  focus (intro w hSw; (try dsimp only at hSw); go_simp; (try with_reducible rfl))
                  (repeat (first | simp only [Act.put] | simp only [List.setIfInBounds_toArray] | simp only [List.set_cons_zero] | simp only [List.set_cons_succ]))
                  refine takeD (i := 28) (d := some 47) (v := ?_) rfl rfl (by kernel_rfl) (by kernel_rfl) (by kernel_rfl) (fun _ _ _ h => h) (Or.inl ⟨by rfl, ?_⟩) hHeld ?_
                  rotate_left 1
                  focus (intro w hSw; (try dsimp only at hSw); go_simp; (try with_reducible rfl))
                  (repeat (first | simp only [Act.put] | simp only [List.setIfInBounds_toArray] | simp only [List.set_cons_zero] | simp only [List.set_cons_succ]))
                  refine takeD (i := 29) (d := some 48) (v := ?_) rfl rfl (by kernel_rfl) (by kernel_rfl) (by kernel_rfl) (fun _ _ _ h => h) (Or.inl ⟨by rfl, ?_⟩) hHeld ?_
                  rotate_left 1
                  focus (intro w hSw; (try dsimp only at hSw); go_simp; (try with_reducible rfl))
                  (repeat (first | simp only [Act.put] | simp only [List.setIfInBounds_toArray] | simp only [List.set_cons_zero] | simp only [List.set_cons_succ]))
                  refine takeD (i := 31) (d := some 50) (v := ?_) rfl rfl (by kernel_rfl) (by kernel_rfl) (by kernel_rfl) (fun _ _ _ h => h) (Or.inl ⟨by rfl, ?_⟩) hHeld ?_
                  rotate_left 1
                  focus (intro w hSw; (try dsimp only at hSw); go_simp; (try with_reducible rfl))
                  (repeat (first | simp only [Act.put] | simp only [List.setIfInBounds_toArray] | simp only [List.set_cons_zero] | simp only [List.set_cons_succ]))
                  refine wpAnyH_ready (rs := [30]) (by kernel_rfl) (by simp) ?_
                  refine AllReadyH.cons rfl (fun K hK => ?_) AllReadyH.nil
                  go_simp
                  go_at_call 41
                  refine (CX.out _ (by repeat (first | with_reducible exact Below.refl _ _ | with_reducible exact HB9.out | (with_reducible refine Below.drew ?_)))).mono ?_
                  rintro e w10 ⟨rfl, rfl⟩
                  refine hK.out _ _ (⟨(Below.cell (by repeat (first | with_reducible exact Below.refl _ _ | with_reducible exact HB9.out | (with_reducible refine Below.drew ?_))) (p := ⟨sb, so + 10, none⟩) hsbr).trans h10, (Below.cell (by repeat (first | with_reducible exact Below.refl _ _ | with_reducible exact HB9.out | (with_reducible refine Below.drew ?_))) (p := ⟨lb, lo + a, none⟩) hlbr).trans hla, (Below.cell (by repeat (first | with_reducible exact Below.refl _ _ | with_reducible exact HB9.out | (with_reducible refine Below.drew ?_))) (p := ⟨Bs, 0, none⟩) hBsr2).trans hbs⟩) (fun hHeld => ?_)
                  clear hK K
                  (repeat (first | simp only [Act.put] | simp only [List.setIfInBounds_toArray] | simp only [List.set_cons_zero] | simp only [List.set_cons_succ]))
                  by_cases hxl : x < last
                  · skip
                    have hxl1 : (x : Int) < (last : Int) := by omega
                    have HFn := Lib.hid (show f = false by rw [HF.out, decide_eq_true hxl]; simp)
                    have hxlX := Lib.hid hxl
                    refine takeD (i := 32) (d := some 51) (v := ?_) rfl rfl (by kernel_rfl) (by kernel_rfl) (by kernel_rfl) (fun _ _ _ h => h) (Or.inl ⟨by rfl, ?_⟩) hHeld ?_
                    rotate_left 1
                    focus (intro w hSw; (try dsimp only at hSw); go_simp; (try with_reducible rfl))
                    (repeat (first | simp only [Act.put] | simp only [List.setIfInBounds_toArray] | simp only [List.set_cons_zero] | simp only [List.set_cons_succ]))
                    refine takeD (i := 33) (d := some 52) (v := ?_) rfl rfl (by kernel_rfl) (by kernel_rfl) (by kernel_rfl) (fun _ _ _ h => h) (Or.inl ⟨by rfl, ?_⟩) hHeld ?_
                    rotate_left 1
                    focus (intro w hSw; (try dsimp only at hSw); go_simp; (try with_reducible rfl))
                    (repeat (first | simp only [Act.put] | simp only [List.setIfInBounds_toArray] | simp only [List.set_cons_zero] | simp only [List.set_cons_succ]))
                    refine wpAnyH_done (by kernel_rfl) ?_ _
                    have hz : f = false := HFn.out
                    go_wp2_with fail
                    go_meet
                    case rel => exact ⟨rfl, by rw [hz]; rfl, Lib.hid (by repeat (first | with_reducible exact Below.refl _ _ | with_reducible exact HB9.out | (with_reducible refine Below.drew ?_)))⟩
                  · skip
                    have hxl1 : ¬ (x : Int) < (last : Int) := by omega
                    have hxl2 : decide (x < last) = false := decide_eq_false hxl
                    have HFy := Lib.hid (show f = true by
                      rw [HF.out, decide_eq_false hxl]; unfold fitS
                      rw [HGD.out, ← HKD.out, decide_eq_false (show ¬ kd % 2 = 1 from hoX.out), decide_eq_false (show ¬ a + j = a by have := hjX.out; omega), decide_eq_true (show genS s = g by rw [← HX.out, ← HY.out]; exact hxyX.out)]; rfl)
                    have hxlX := Lib.hid hxl
                    refine takeD (i := 32) (d := some 51) (v := ?_) rfl rfl (by kernel_rfl) (by kernel_rfl) (by kernel_rfl) (fun _ _ _ h => h) (Or.inl ⟨by rfl, ?_⟩) hHeld ?_
                    rotate_left 1
                    focus (intro w hSw; (try dsimp only at hSw); go_simp; (try with_reducible rfl))
                    (repeat (first | simp only [Act.put] | simp only [List.setIfInBounds_toArray] | simp only [List.set_cons_zero] | simp only [List.set_cons_succ]))
                    refine takeD (i := 33) (d := some 52) (v := ?_) rfl rfl (by kernel_rfl) (by kernel_rfl) (by kernel_rfl) (fun _ _ _ h => h) (Or.inl ⟨by rfl, ?_⟩) hHeld ?_
                    rotate_left 1
                    focus (intro w hSw; (try dsimp only at hSw); go_simp; (try with_reducible rfl))
                    (repeat (first | simp only [Act.put] | simp only [List.setIfInBounds_toArray] | simp only [List.set_cons_zero] | simp only [List.set_cons_succ]))
                    refine wpAnyH_done (by kernel_rfl) ?_ _
                    have hz : f = true := HFy.out
                    go_wp2_with fail
                    go_meet
                    case rel => exact ⟨rfl, by rw [hz]; rfl, Lib.hid (by repeat (first | with_reducible exact Below.refl _ _ | with_reducible exact HB9.out | (with_reducible refine Below.drew ?_)))⟩
                · skip
                  have hxy1 : ((x : Int) != (z : Int)) = true := by rw [bne_iff_ne]; omega
                  have HFn := Lib.hid (show f = false by
                    rw [HF.out]; unfold fitS
                    rw [HGD.out, ← HKD.out, decide_eq_false (show ¬ kd % 2 = 1 from hoX.out), decide_eq_false (show ¬ a + j = a by have := hjX.out; omega), decide_eq_false (show ¬ genS s = g by rw [← HX.out, ← HY.out]; exact hxy)]; rfl)
                  have hxyX := Lib.hid hxy
                  clear hxy
                  refine takeD (i := 25) (d := some 44) (v := ?_) rfl rfl (by kernel_rfl) (by kernel_rfl) (by kernel_rfl) (fun _ _ _ h => h) (Or.inl ⟨by rfl, ?_⟩) hHeld ?_
                  rotate_left 1
                  focus (intro w hSw; (try dsimp only at hSw); go_simp; (try with_reducible rfl))
                  (repeat (first | simp only [Act.put] | simp only [List.setIfInBounds_toArray] | simp only [List.set_cons_zero] | simp only [List.set_cons_succ]))
                  refine takeD (i := 26) (d := some 45) (v := ?_) rfl rfl (by kernel_rfl) (by kernel_rfl) (by kernel_rfl) (fun _ _ _ h => h) (Or.inl ⟨by rfl, ?_⟩) hHeld ?_
                  rotate_left 1
                  focus (intro w hSw; (try dsimp only at hSw); go_simp; (try with_reducible rfl))
                  (repeat (first | simp only [Act.put] | simp only [List.setIfInBounds_toArray] | simp only [List.set_cons_zero] | simp only [List.set_cons_succ]))
                  refine takeD (i := 27) (d := some 46) (v := ?_) rfl rfl (by kernel_rfl) (by kernel_rfl) (by kernel_rfl) (fun _ _ _ h => h) (Or.inl ⟨by rfl, ?_⟩) hHeld ?_
                  rotate_left 1
                  focus (intro w hSw; (try dsimp only at hSw); go_simp; (try with_reducible rfl))
                  (repeat (first | simp only [Act.put] | simp only [List.setIfInBounds_toArray] | simp only [List.set_cons_zero] | simp only [List.set_cons_succ]))
                  refine takeD (i := 28) (d := some 47) (v := undef) rfl rfl (by kernel_rfl) (by kernel_rfl) (by kernel_rfl) (fun _ _ _ h => h) (Or.inr ⟨by rfl, rfl⟩) hHeld ?_
                  (repeat (first | simp only [Act.put] | simp only [List.setIfInBounds_toArray] | simp only [List.set_cons_zero] | simp only [List.set_cons_succ]))
                  refine takeD (i := 29) (d := some 48) (v := undef) rfl rfl (by kernel_rfl) (by kernel_rfl) (by kernel_rfl) (fun _ _ _ h => h) (Or.inr ⟨by rfl, rfl⟩) hHeld ?_
                  (repeat (first | simp only [Act.put] | simp only [List.setIfInBounds_toArray] | simp only [List.set_cons_zero] | simp only [List.set_cons_succ]))
                  refine takeD (i := 30) (d := some 49) (v := undef) rfl rfl (by kernel_rfl) (by kernel_rfl) (by kernel_rfl) (fun _ _ _ h => h) (Or.inr ⟨by rfl, rfl⟩) hHeld ?_
                  (repeat (first | simp only [Act.put] | simp only [List.setIfInBounds_toArray] | simp only [List.set_cons_zero] | simp only [List.set_cons_succ]))
                  refine takeD (i := 31) (d := some 50) (v := undef) rfl rfl (by kernel_rfl) (by kernel_rfl) (by kernel_rfl) (fun _ _ _ h => h) (Or.inr ⟨by rfl, rfl⟩) hHeld ?_
                  (repeat (first | simp only [Act.put] | simp only [List.setIfInBounds_toArray] | simp only [List.set_cons_zero] | simp only [List.set_cons_succ]))
                  refine takeD (i := 32) (d := some 51) (v := undef) rfl rfl (by kernel_rfl) (by kernel_rfl) (by kernel_rfl) (fun _ _ _ h => h) (Or.inr ⟨by rfl, rfl⟩) hHeld ?_
                  (repeat (first | simp only [Act.put] | simp only [List.setIfInBounds_toArray] | simp only [List.set_cons_zero] | simp only [List.set_cons_succ]))
                  refine takeD (i := 33) (d := some 52) (v := ?_) rfl rfl (by kernel_rfl) (by kernel_rfl) (by kernel_rfl) (fun _ _ _ h => h) (Or.inl ⟨by rfl, ?_⟩) hHeld ?_
                  rotate_left 1
                  focus (intro w hSw; (try dsimp only at hSw); go_simp; (try with_reducible rfl))
                  (repeat (first | simp only [Act.put] | simp only [List.setIfInBounds_toArray] | simp only [List.set_cons_zero] | simp only [List.set_cons_succ]))
                  refine wpAnyH_done (by kernel_rfl) ?_ _
                  have hz : f = false := HFn.out
                  go_wp2_with fail
                  go_meet
                  case rel => exact ⟨rfl, by rw [hz]; rfl, Lib.hid (by repeat (first | with_reducible exact Below.refl _ _ | with_reducible exact HB9.out | (with_reducible refine Below.drew ?_)))⟩
        case rest =>
          obtain ⟨rfl, rfl, HBc⟩ := hcut
          have HBo := Lib.hid (HB.out.trans (HBc.out.mono hszr))
          have HO2 := Lib.hid (HO.out.below HBc.out)
          have h10' := (HBc.out.cell (p := ⟨sb, so + 10, none⟩) hsbr).trans h10
          have h11' := (HBc.out.cell (p := ⟨sb, so + 11, none⟩) hsbr).trans h11
          have HZc := Lib.hid (Nat.le_trans hszr HBc.out.size)
          clear hla CG CY h10 h11
          cases f with
          | false =>
            have hE : recs l = ys.map Yl.bs := by
              cases hfit : fitS a g (a + j) s
              · rw [HRC.out, recsFrom_none (by rw [HRA.out, drop_get hlt, ← HSE.out, recGo_bad hfit]; rfl), List.append_nil]
              · have h1 := HF.out.symm
                rw [hfit, Bool.true_and, Bool.not_eq_false', decide_eq_true_eq] at h1
                have h2 : genS s = g := by unfold fitS at hfit; simp only [Bool.and_eq_true, decide_eq_true_eq] at hfit; exact hfit.2
                rw [HRC.out, recsFrom_old (by rw [← HGE.out, ← h2, ← HX.out]; exact h1), List.append_nil]
            have HE := Lib.hid hE
            clear hE
            go_wp2_with fail
            try rw [Exit.noGoto_ret]
            refine bodyPost_ret (results_none rfl _ _ _) rfl ?_
            exact ⟨⟨_, rfl⟩, ys, HE.out.symm, hJb _ _ _ HJ.out HBo.out⟩
          | true =>
            have hft := HF.out.symm
            rw [Bool.and_eq_true, Bool.not_eq_true', decide_eq_false_iff_not] at hft
            obtain ⟨hfit, hxl⟩ := hft
            have HFT := Lib.hid hfit
            have hgood : goodB s (a + j) = true := by
              unfold fitS at hfit
              simp only [Bool.and_eq_true] at hfit
              exact hfit.1.1
            have hxg : x = g := by
              unfold fitS at hfit
              simp only [Bool.and_eq_true, decide_eq_true_eq] at hfit
              rw [HX.out]; exact hfit.2
            have HLX := Lib.hid (show last ≤ x by omega)
            have HXG := Lib.hid hxg
            have hfm := (good_form hgood).1
            have hn116 : n ≤ 116 ∧ kd ≤ 3 := by
              unfold formB at hfm
              simp only [Bool.and_eq_true, decide_eq_true_eq] at hfm
              rw [HN.out, HKD.out]; exact ⟨hfm.1.1.2, hfm.1.1.1⟩
            obtain ⟨hn116, hkd3⟩ := hn116
            clear hfit hgood hfm hxg hxl
            have hw12 : IntKind.i64.wrap (12 + (n : Int)) = 12 + (n : Int) := IntWalk.i64_in _ (by omega)
            have hcn : ¬ (sc : Int) < 12 + (n : Int) := by omega
            have hn0 : ¬ (12 + (n : Int)) < 12 := by omega
            have hc12 : ¬ sc = 12 := by omega
            have hdl : (dataS s).length = n := by rw [dataS_length H128.out (by rw [← HN.out]; exact hn116)]; exact HN.out.symm
            have hds : BytesC wc M (some ⟨sb, so + 12, none⟩) (dataS s) := by
              have := (HSB.out.part 12 n (by rw [H128.out]; omega)).below HBc.out
              unfold dataS
              rw [← HN.out]
              exact this
            have HDS := Lib.hid hds
            have HDL := Lib.hid hdl
            clear hdl hds
            go_upto_region 8 with (at_builtin; refine wpList_appB rfl (.tmp 53) (.tmp 60) rfl wo.heap.size wo.heap.size u5 acc rfl HO2.out (some ⟨sb, so + 12, none⟩) n (sc - 12) (dataS s) (by first | rfl | (show Value.slice _ _ _ = Value.slice _ _ _; congr 1; omega)) HDL.out.symm HDS.out (by rw [HDL.out]; omega) HZc.out (Nat.le_refl _) HBo.out ?_; intro v3 w3 HO3 HB3 HZ3)
            have h10'' := (HB3.out.cell (p := ⟨sb, so + 10, none⟩) hsbo).trans ((HK.out.cell (p := ⟨sb, so + 10, none⟩) hMs).trans H10W.out)
            clear h10' h11'
            by_cases hk2 : 2 ≤ kd
            · have hand2 : bits .and .u8 (kd : Int) 2 = 2 := by
                rw [show (2 : Int) = ((2 : Nat) : Int) from rfl, u8_and_nat kd 2 hkl (by omega)]
                have : kd = 2 ∨ kd = 3 := by omega
                rcases this with rfl | rfl <;> rfl
              have HR3 := Lib.hid (show recAt l a = some (acc ++ dataS s, a + j + 1) by
                rw [HRA.out, drop_get hlt, ← HSE.out, recGo_one HFT.out, ← HKD.out, if_pos hk2]; rfl)
              have CX3 := Lib.hid (get_any w3 M (some ⟨sb, so, none⟩) sc (s.take 4) (by rw [List.length_take]; omega) (by
                have h1 : BytesC w3 M (some ⟨sb, so, none⟩) s := HSBW.out.keep fun p hp _ => (HB3.out.cell (p := p) (Nat.lt_of_lt_of_le (hM _ hp) hszo)).trans (HK.out.cell (p := p) hp)
                exact h1.part 0 4 (by rw [H128.out]; omega)))
              rw [show (s.take 4).length = 4 by rw [List.length_take, H128.out]; rfl, show num (s.take 4) = x from HX.out.symm] at CX3
              clear hk2
              go_wp2_with fail
              refine CX3.out.mono ?_
              rintro e w4 ⟨rfl, hw4⟩
              subst hw4
              go_upto_region 10 with fail
              obtain ⟨L3, hL3⟩ : ∃ L3, L3 = acc ++ dataS s := ⟨_, rfl⟩
              rw [← hL3] at HO3
              obtain ⟨vA, vc, hv3, e31, e32, e33⟩ := HO3.out.bytes
              subst hv3
              obtain ⟨p1, hp1⟩ : ∃ p1, p1 = a + j + 1 := ⟨_, rfl⟩
              have HP1 := Lib.hid (show (a : Int) + (j : Int) + 1 = (p1 : Int) by omega)
              rw [← hL3, ← hp1] at HR3
              have hp1l : p1 ≤ l.length := by omega
              obtain ⟨fn, tmps, assign, body, hy, hR⟩ := hY ys ⟨p1, .slice vA L3.length vc, L3⟩ w4 (hJb _ _ _ HJ.out HB3.out) ⟨by omega, vA, vc, rfl, e31, e32, own_u8 HO3.out (Nat.le_trans hn₀ HK.out.size)⟩
              have HL3 := Lib.hid hL3
              have HP2 := Lib.hid hp1
              clear hL3 e31 e32 e33 hp1
              simp only [encY] at hy
              rw [HP1.out]
              refine wpIn_wide (n := nf) |>.1 ?_
              gi_wp2
              refine ⟨fun h => (by cases h), hR.mono ?_⟩
              rintro e W3 ⟨rfl, hJ3, hk3⟩
              gi_wp2
              go_wp2_with fail
              have hk4 : KM M wo w4 := ⟨by have := HB3.out.size; omega, fun k hk => HB3.out.block k (Nat.lt_of_lt_of_le (hM _ hk) hszo)⟩
              have HE3 := Lib.hid (show recs l = (ys ++ [(⟨p1, .slice vA L3.length vc, L3⟩ : Yl)]).map Yl.bs ++ recsFrom l p1 x by
                rw [HRC.out, recsFrom_some HR3.out (show last ≤ genS (l.getD a []) by rw [← HGE.out, ← HXG.out]; exact HLX.out), List.map_append, List.append_assoc]
                rw [HXG.out, HGE.out]; rfl)
              go_roundg (l.length + 1 - p1)
              case measure => have := HP2.out; omega
              case rel => exact ⟨p1, x, _, hp1l, by rw [List.length_append, List.length_singleton]; have := HP2.out; omega, rfl, rfl, rfl, Lib.hid hJ3, Lib.hid ((HK.out.trans hk4).trans hk3), HE3⟩
            · have hand2 : bits .and .u8 (kd : Int) 2 = 0 := by
                rw [show (2 : Int) = ((2 : Nat) : Int) from rfl, u8_and_nat kd 2 hkl (by omega)]
                have : kd = 0 ∨ kd = 1 := by omega
                rcases this with rfl | rfl <;> rfl
              have HR3 := Lib.hid (show recAt l a = (recGo a g (a + (j + 1)) (l.drop (a + (j + 1)))).map fun x => (acc ++ dataS s ++ x.1, x.2) by
                rw [HRA.out, drop_get hlt, ← HSE.out, recGo_one HFT.out, ← HKD.out, if_neg hk2, Option.map_map]
                congr 1
                funext x
                show (acc ++ (dataS s ++ x.1), x.2) = _
                rw [List.append_assoc])
              clear hk2
              go_wp2_with fail
              go_roundg (l.length - (a + (j + 1)))
              case measure => omega
              case rel => exact ⟨j + 1, acc ++ dataS s, by omega, rfl, rfl, rfl, by congr 1, by rw [List.length_append, HDL.out]; omega, HO3, HB3, HR3, Lib.hid fun _ => by rw [← HXG.out]; exact HLX.out⟩
      · have HE := Lib.hid (show recs l = ys.map Yl.bs by rw [HRC.out, recsFrom_none (by rw [HRA.out, List.drop_of_length_le (by omega)]; rfl), List.append_nil])
        go_wp2_with fail
        rw [Exit.noGoto_ret]
        refine bodyPost_ret (results_none rfl _ _ _) rfl ?_
        exact ⟨⟨_, rfl⟩, ys, HE.out.symm, hJb _ _ _ HJ.out HB.out⟩
end Go.Proofs.Ytocjhepiooljpaa
