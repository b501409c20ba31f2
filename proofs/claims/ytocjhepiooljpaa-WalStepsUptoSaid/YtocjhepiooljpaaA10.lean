/- record of the reference. -/
import Derived.Test.YtocjhepiooljpaaA9
namespace Go.Proofs.Ytocjhepiooljpaa
open Go.RowKit Go.Deep Go.Shelf

/-- what record answers -/
def RecW (base : Nat) (a : Nat) (r : Option (List UInt8 × Nat)) (e : Ending) (w' : World) : Prop := ∃ v n, e = .returned (.tuple #[v, .int .i64 (n : Int)]) ∧
  ((r = none ∧ n = 0) ∨ ∃ b m, r = some (b, a + m) ∧ n = (m : Int) ∧ 0 < m ∧ IsBytes w' (fun q => base ≤ q) v b)
theorem drop_get {l : List (List UInt8)} {k : Nat} (h : k < l.length) : l.drop k = l[k] :: l.drop (k + 1) := List.drop_eq_getElem_cons h
theorem MatC.head {w : World} {M : Nat → Prop} {A : Option Addr} {l : List (List UInt8)} (h : MatC w M A l) (hl : 0 < l.length) : ∃ b off, A = some ⟨b, off, none⟩ := by
  obtain ⟨b, off, bA, bc, e, -⟩ := h.at_ (Below.refl _ _) hl
  exact ⟨b, off, e⟩
/-- all about sector k of a list of whole sectors -/
theorem MatC.sec {w : World} {M : Nat → Prop} {lb lo : Nat} {l : List (List UInt8)} (h : MatC w M (some ⟨lb, lo, none⟩) l) (hs : Sized128 l) {k : Nat} (hk : k < l.length) :
    ∃ sb so sc, w.cell? ⟨lb, lo + k, none⟩ = some (.slice (some ⟨sb, so, none⟩) 128 sc) ∧ 128 ≤ sc ∧ sc ≤ 9223372036854775807 ∧ lb < w.heap.size ∧ BytesC w M (some ⟨sb, so, none⟩) l[k] ∧ (l[k]).length = 128 := by
  obtain ⟨b, off, bA, bc, e, hbl, hc, h1, h2, h3⟩ := h.at_ (Below.refl _ _) hk
  injection e with e
  injection e with e1 e2
  subst e1 e2
  have h128 := hs _ (List.getElem_mem hk)
  obtain ⟨sb, so, rfl, -⟩ := h3.at_ (Below.refl _ _) (show 0 < (l[k]).length by omega)
  rw [h128] at hc h1
  exact ⟨sb, so, bc, hc, h1, h2, hbl, h3, h128⟩
theorem sec_kd {s : List UInt8} (h : s.length = 128) : (s[10]).toNat = kindS s := by unfold kindS; rw [List.getD_eq_getElem?_getD, List.getElem?_eq_getElem (by omega), Option.getD_some]
theorem sec_ln {s : List UInt8} (h : s.length = 128) : (s[11]).toNat = lenS s := by unfold lenS; rw [List.getD_eq_getElem?_getD, List.getElem?_eq_getElem (by omega), Option.getD_some]

set_option maxRecDepth 20000 in
set_option maxHeartbeats 4000000 in
theorem refRecord_any (w : World) (M : Nat → Prop) (v : Value) (l : List (List UInt8)) (a : Nat) (hl : l.length ≤ 4096) (ha : a ≤ 4096) (hs : Sized128 l) (h : IsMat w M v l) :
    Calls Try.prog 62 #[v, .int .i64 (a : Int)] w fun e w' => RecW w.heap.size a (recAt l a) e w' ∧ Below w.heap.size w w' := by
  obtain ⟨A, c, rfl, -, -, hm⟩ := h
  have HS := Lib.hid hm
  have HSZ := Lib.hid hs
  clear hm hs
  obtain ⟨g, hg⟩ : ∃ g, g = genS (l.getD a []) := ⟨_, rfl⟩
  have HGE := Lib.hid hg
  have HR := Lib.hid (show recAt l a = recGo a g a (l.drop a) by unfold recAt; rw [hg])
  clear hg
  go_enter Try.func62, Try.ntmps62
  go_wp2_with fail
  refine nameC fun W1 hW1 => ?_
  obtain ⟨base, hbase⟩ : ∃ base, base = w.heap.size := ⟨_, rfl⟩
  have HB1 : Hid (Below base w W1) := Lib.hid (by rw [hW1.out, hbase]; exact (Below.refl _ _).alloc (Nat.le_refl _) _)
  have HO1 : Hid (OwnB W1 base (.slice (some ⟨base, 0, none⟩) 0 0) []) := Lib.hid (by rw [hW1.out, hbase]; exact OwnB.empty (heap_alloc_new w _) (Nat.le_refl _))
  rw [← hbase]
  have HBS := Lib.hid hbase
  clear hW1 hbase
  go_loopw [6, 7] (fun o i wr => ∃ (j : Nat) (acc : List UInt8), j ≤ l.length ∧ i = .int .i64 (j : Int) ∧ acc.length ≤ 116 * j ∧ Hid (OwnB wr base o acc) ∧ Hid (Below base w wr) ∧ Hid (base ≤ wr.heap.size) ∧ Hid (recAt l a = (recGo a g (a + j) (l.drop (a + j))).map fun x => (acc ++ x.1, x.2))) (fun _ i _ => l.length - (intOf i).toNat)
  case atStart => exact ⟨0, [], Nat.zero_le _, rfl, by simp, HO1, HB1, Lib.hid (by rw [HBS.out]; exact HBS.out ▸ HB1.out.size), Lib.hid (by rw [HR.out]; simp)⟩
  case round =>
    obtain ⟨i, acc, hi, rfl, hacc, HO, HB, HSz, HRC⟩ := hrel
    clear HB1 HO1
    have hai : (a : Int) + (i : Int) = ((a + i : Nat) : Int) := by omega
    have HAI := Lib.hid hai
    clear hai
    by_cases hlt : a + i < l.length
    · have hla0 : 0 < l.length := by omega
      obtain ⟨lb, lo, rfl⟩ := HS.out.head hla0
      obtain ⟨sb, so, sc, hcsw, hc1, hc2, hlbw, hsBw, hs128⟩ := HS.out.sec HSZ.out hlt
      obtain ⟨ab, ao, ac, hlaw, hd1, hd2, -, haBw, ha128⟩ := HS.out.sec HSZ.out (show a < l.length by omega)
      have hlb : lb < base := by rw [HBS.out]; exact hlbw
      have hlbr : lb < wr.heap.size := Nat.lt_of_lt_of_le hlb HSz.out
      have hcs := (HB.out.cell (p := ⟨lb, lo + (a + i), none⟩) hlb).trans hcsw
      have hla := (HB.out.cell (p := ⟨lb, lo + a, none⟩) hlb).trans hlaw
      obtain ⟨s, hse⟩ : ∃ s, s = l[a + i] := ⟨_, rfl⟩
      obtain ⟨sa, hsa⟩ : ∃ sa, sa = l[a] := ⟨_, rfl⟩
      rw [← hse] at hsBw hs128
      rw [← hsa] at haBw ha128
      have HSE := Lib.hid hse
      obtain ⟨b', off', e', -, hsbw, h10w⟩ := hsBw.at_ (Below.refl _ _) (show 10 < s.length by omega)
      injection e' with e'
      injection e' with e1 e2
      subst e1 e2
      obtain ⟨b', off', e', -, -, h11w⟩ := hsBw.at_ (Below.refl _ _) (show 11 < s.length by omega)
      injection e' with e'
      injection e' with e1 e2
      subst e1 e2
      have hsb : sb < base := by rw [HBS.out]; exact hsbw
      have hsbr : sb < wr.heap.size := Nat.lt_of_lt_of_le hsb HSz.out
      have hsB : BytesC wr M (some ⟨sb, so, none⟩) s := hsBw.keep fun p _ hp => HB.out.cell (p := p) (by rw [HBS.out]; exact hp)
      have haB : BytesC wr M (some ⟨ab, ao, none⟩) sa := haBw.keep fun p _ hp => HB.out.cell (p := p) (by rw [HBS.out]; exact hp)
      rw [sec_kd hs128] at h10w
      rw [sec_ln hs128] at h11w
      have h10 := (HB.out.cell (p := ⟨sb, so + 10, none⟩) hsb).trans h10w
      have h11 := (HB.out.cell (p := ⟨sb, so + 11, none⟩) hsb).trans h11w
      obtain ⟨kd, hkd⟩ : ∃ kd, kd = kindS s := ⟨_, rfl⟩
      obtain ⟨n, hn⟩ : ∃ n, n = lenS s := ⟨_, rfl⟩
      rw [← hkd] at h10 h10w
      rw [← hn] at h11
      have H10W := Lib.hid h10w
      have hkl : kd < 256 := by rw [hkd, ← sec_kd hs128]; exact byte_lt _
      have hnl : n < 256 := by rw [hn, ← sec_ln hs128]; exact byte_lt _
      have HKD := Lib.hid hkd
      have HN := Lib.hid hn
      obtain ⟨x, hx⟩ : ∃ x, x = genS s := ⟨_, rfl⟩
      obtain ⟨y, hy⟩ : ∃ y, y = genS sa := ⟨_, rfl⟩
      have hyg : y = g := by rw [hy, hsa, HGE.out, List.getD_eq_getElem?_getD, List.getElem?_eq_getElem (by omega), Option.getD_some]
      have HY := Lib.hid hyg
      have HX := Lib.hid hx
      have HG0 := Lib.hid (show i = 0 → genS s = g from fun e => by subst e; rw [hse, HGE.out, List.getD_eq_getElem?_getD, List.getElem?_eq_getElem (by omega), Option.getD_some]; rfl)
      have CG := Lib.hid fun (W : World) (hB : Below wr.heap.size wr W) => refGood_any W M (some ⟨sb, so, none⟩) sc s (a + i) hs128 hc1 hc2 (by omega) (hsB.below hB)
      have l4 : (s.take 4).length = 4 := by rw [List.length_take]; omega
      have m4 : (sa.take 4).length = 4 := by rw [List.length_take]; omega
      have CX := Lib.hid fun (W : World) (hB : Below wr.heap.size wr W) => number_any W M (some ⟨sb, so, none⟩) sc (s.take 4) (by omega) ((hsB.part 0 4 (by omega)).below hB)
      have CY := Lib.hid fun (W : World) (hB : Below wr.heap.size wr W) => number_any W M (some ⟨ab, ao, none⟩) ac (sa.take 4) (by omega) ((haB.part 0 4 (by omega)).below hB)
      rw [l4, show num (s.take 4) = x from hx.symm] at CX
      rw [m4, show num (sa.take 4) = y from hy.symm] at CY
      have HSB := Lib.hid hsB
      have H128 := Lib.hid hs128
      obtain ⟨f, hf⟩ : ∃ f, f = fitS a g (a + i) s := ⟨_, rfl⟩
      have HF := Lib.hid hf
      have hk0 : (0 : Int) ≤ (a : Int) + (i : Int) := by omega
      have hk1 : (a : Int) + (i : Int) < (l.length : Int) := by omega
      have ha0 : (0 : Int) ≤ (a : Int) := by omega
      have ha1 : (a : Int) < (l.length : Int) := by omega
      have hcs' : wr.cell? ⟨lb, lo + ((a : Int) + (i : Int)).toNat, none⟩ = some (.slice (some ⟨sb, so, none⟩) 128 sc) := by rw [HAI.out]; exact hcs
      have hwai : IntKind.i64.wrap ((a : Int) + (i : Int)) = (a : Int) + (i : Int) := IntWalk.i64_in _ (by omega)
      have i4 : (4 : Int) ≤ (sc : Int) := by omega
      have i4' : (4 : Int) ≤ (ac : Int) := by omega
      have j4 : 4 ≤ sc := by omega
      have j4' : 4 ≤ ac := by omega
      have k4 : ¬ (sc : Int) < 4 := by omega
      have k4' : ¬ (ac : Int) < 4 := by omega
      have n4 : ¬ sc < 4 := by omega
      have n4' : ¬ ac < 4 := by omega
      have o4 : ¬ sc = 0 := by omega
      have o4' : ¬ ac = 0 := by omega
      clear hse hsa hkd hn hx hy hyg hf l4 m4 hsB haB hs128 ha128 hcsw hlbw hsBw hlaw haBw hsbw h10w h11w
      go_upto_region 6 with fail
      go_cut [8, 55] (fun sv v W => sv = .slice (some ⟨sb, so, none⟩) 128 sc ∧ v = .bool (!f) ∧ Hid (Below wr.heap.size wr W))
      case first =>
        refine wp_region_held_drew (S := fun w' => w'.cell? ⟨sb, so + 10, none⟩ = some (.int .u8 (kd : Int)) ∧ w'.cell? ⟨lb, lo + a, none⟩ = some (.slice (some ⟨ab, ao, none⟩) 128 ac)) (by kernel_rfl) ⟨h10, hla⟩ (fun hHeld => ?_)
        change wpAnyH _ _ _ _ _ 32 #[false, false, false, false, false, false, false, false, false, false, false, false, false, false, false, false, false, false, false, false, false, false, false, false, false, false, false, false, false, false, false, false] _ wr.drew
        refine takeD (i := 0) (d := some 24) (v := ?_) rfl rfl (by kernel_rfl) (by kernel_rfl) (by kernel_rfl) (fun _ _ _ h => h) (Or.inl ⟨by rfl, ?_⟩) hHeld ?_
        rotate_left 1
        focus (intro w hSw; (try dsimp only at hSw); go_simp; (try with_reducible rfl))
        (repeat (first | simp only [Act.put] | simp only [List.setIfInBounds_toArray] | simp only [List.set_cons_zero] | simp only [List.set_cons_succ]))
        refine takeD (i := 1) (d := some 25) (v := ?_) rfl rfl (by kernel_rfl) (by kernel_rfl) (by kernel_rfl) (fun _ _ _ h => h) (Or.inl ⟨by rfl, ?_⟩) hHeld ?_
        rotate_left 1
        focus (intro w hSw; (try dsimp only at hSw); go_simp; (try with_reducible rfl))
        (repeat (first | simp only [Act.put] | simp only [List.setIfInBounds_toArray] | simp only [List.set_cons_zero] | simp only [List.set_cons_succ]))
        refine takeD (i := 2) (d := some 26) (v := ?_) rfl rfl (by kernel_rfl) (by kernel_rfl) (by kernel_rfl) (fun _ _ _ h => h) (Or.inl ⟨by rfl, ?_⟩) hHeld ?_
        rotate_left 1
        focus (intro w hSw; (try dsimp only at hSw); go_simp; (try with_reducible rfl))
        (repeat (first | simp only [Act.put] | simp only [List.setIfInBounds_toArray] | simp only [List.set_cons_zero] | simp only [List.set_cons_succ]))
        refine takeD (i := 3) (d := some 27) (v := ?_) rfl rfl (by kernel_rfl) (by kernel_rfl) (by kernel_rfl) (fun _ _ _ h => h) (Or.inl ⟨by rfl, ?_⟩) hHeld ?_
        rotate_left 1
        focus (intro w hSw; (try dsimp only at hSw); go_simp; (try with_reducible rfl))
        (repeat (first | simp only [Act.put] | simp only [List.setIfInBounds_toArray] | simp only [List.set_cons_zero] | simp only [List.set_cons_succ]))
        refine wpAnyH_ready (rs := [4]) (by kernel_rfl) (by simp) ?_
        refine AllReadyH.cons rfl (fun K hK => ?_) AllReadyH.nil
        go_simp
        go_at_call 72
        rw [HAI.out]
        refine (CG.out _ (by repeat (first | with_reducible exact Below.refl _ _ | with_reducible exact HB9.out | (with_reducible refine Below.drew ?_)))).mono ?_
        rintro e w9 ⟨rfl, hb9⟩
        have HB9 : Hid (Below wr.heap.size wr w9) := Lib.hid ((Below.drew (Below.refl _ _)).trans hb9)
        clear hb9
        refine hK.out _ _ (⟨(Below.cell (by repeat (first | with_reducible exact Below.refl _ _ | with_reducible exact HB9.out | (with_reducible refine Below.drew ?_))) (p := ⟨sb, so + 10, none⟩) hsbr).trans h10, (Below.cell (by repeat (first | with_reducible exact Below.refl _ _ | with_reducible exact HB9.out | (with_reducible refine Below.drew ?_))) (p := ⟨lb, lo + a, none⟩) hlbr).trans hla⟩) (fun hHeld => ?_)
        clear hK K
        (repeat (first | simp only [Act.put] | simp only [List.setIfInBounds_toArray] | simp only [List.set_cons_zero] | simp only [List.set_cons_succ]))
        cases hgd : goodB s (a + i)
        · skip
          have HFn := Lib.hid (show f = false by rw [HF.out]; unfold fitS; rw [hgd]; rfl)
          refine takeD (i := 5) (d := some 29) (v := ?_) rfl rfl (by kernel_rfl) (by kernel_rfl) (by kernel_rfl) (fun _ _ _ h => h) (Or.inl ⟨by rfl, ?_⟩) hHeld ?_
          rotate_left 1
          focus (intro w hSw; (try dsimp only at hSw); go_simp; (try with_reducible rfl))
          (repeat (first | simp only [Act.put] | simp only [List.setIfInBounds_toArray] | simp only [List.set_cons_zero] | simp only [List.set_cons_succ]))
          refine takeD (i := 6) (d := some 30) (v := ?_) rfl rfl (by kernel_rfl) (by kernel_rfl) (by kernel_rfl) (fun _ _ _ h => h) (Or.inl ⟨by rfl, ?_⟩) hHeld ?_
          rotate_left 1
          focus (intro w hSw; (try dsimp only at hSw); go_simp; (try with_reducible rfl))
          (repeat (first | simp only [Act.put] | simp only [List.setIfInBounds_toArray] | simp only [List.set_cons_zero] | simp only [List.set_cons_succ]))
          refine takeD (i := 7) (d := some 31) (v := undef) rfl rfl (by kernel_rfl) (by kernel_rfl) (by kernel_rfl) (fun _ _ _ h => h) (Or.inr ⟨by rfl, rfl⟩) hHeld ?_
          (repeat (first | simp only [Act.put] | simp only [List.setIfInBounds_toArray] | simp only [List.set_cons_zero] | simp only [List.set_cons_succ]))
          refine takeD (i := 8) (d := some 32) (v := undef) rfl rfl (by kernel_rfl) (by kernel_rfl) (by kernel_rfl) (fun _ _ _ h => h) (Or.inr ⟨by rfl, rfl⟩) hHeld ?_
          (repeat (first | simp only [Act.put] | simp only [List.setIfInBounds_toArray] | simp only [List.set_cons_zero] | simp only [List.set_cons_succ]))
          refine takeD (i := 9) (d := some 33) (v := undef) rfl rfl (by kernel_rfl) (by kernel_rfl) (by kernel_rfl) (fun _ _ _ h => h) (Or.inr ⟨by rfl, rfl⟩) hHeld ?_
          (repeat (first | simp only [Act.put] | simp only [List.setIfInBounds_toArray] | simp only [List.set_cons_zero] | simp only [List.set_cons_succ]))
          refine takeD (i := 10) (d := some 34) (v := undef) rfl rfl (by kernel_rfl) (by kernel_rfl) (by kernel_rfl) (fun _ _ _ h => h) (Or.inr ⟨by rfl, rfl⟩) hHeld ?_
          (repeat (first | simp only [Act.put] | simp only [List.setIfInBounds_toArray] | simp only [List.set_cons_zero] | simp only [List.set_cons_succ]))
          refine takeD (i := 11) (d := some 35) (v := undef) rfl rfl (by kernel_rfl) (by kernel_rfl) (by kernel_rfl) (fun _ _ _ h => h) (Or.inr ⟨by rfl, rfl⟩) hHeld ?_
          (repeat (first | simp only [Act.put] | simp only [List.setIfInBounds_toArray] | simp only [List.set_cons_zero] | simp only [List.set_cons_succ]))
          refine takeD (i := 12) (d := some 36) (v := undef) rfl rfl (by kernel_rfl) (by kernel_rfl) (by kernel_rfl) (fun _ _ _ h => h) (Or.inr ⟨by rfl, rfl⟩) hHeld ?_
          (repeat (first | simp only [Act.put] | simp only [List.setIfInBounds_toArray] | simp only [List.set_cons_zero] | simp only [List.set_cons_succ]))
          refine takeD (i := 13) (d := some 37) (v := undef) rfl rfl (by kernel_rfl) (by kernel_rfl) (by kernel_rfl) (fun _ _ _ h => h) (Or.inr ⟨by rfl, rfl⟩) hHeld ?_
          (repeat (first | simp only [Act.put] | simp only [List.setIfInBounds_toArray] | simp only [List.set_cons_zero] | simp only [List.set_cons_succ]))
          refine takeD (i := 14) (d := some 38) (v := undef) rfl rfl (by kernel_rfl) (by kernel_rfl) (by kernel_rfl) (fun _ _ _ h => h) (Or.inr ⟨by rfl, rfl⟩) hHeld ?_
          (repeat (first | simp only [Act.put] | simp only [List.setIfInBounds_toArray] | simp only [List.set_cons_zero] | simp only [List.set_cons_succ]))
          refine takeD (i := 15) (d := some 39) (v := ?_) rfl rfl (by kernel_rfl) (by kernel_rfl) (by kernel_rfl) (fun _ _ _ h => h) (Or.inl ⟨by rfl, ?_⟩) hHeld ?_
          rotate_left 1
          focus (intro w hSw; (try dsimp only at hSw); go_simp; (try with_reducible rfl))
          (repeat (first | simp only [Act.put] | simp only [List.setIfInBounds_toArray] | simp only [List.set_cons_zero] | simp only [List.set_cons_succ]))
          refine takeD (i := 16) (d := some 40) (v := ?_) rfl rfl (by kernel_rfl) (by kernel_rfl) (by kernel_rfl) (fun _ _ _ h => h) (Or.inl ⟨by rfl, ?_⟩) hHeld ?_
          rotate_left 1
          focus (intro w hSw; (try dsimp only at hSw); go_simp; (try with_reducible rfl))
          (repeat (first | simp only [Act.put] | simp only [List.setIfInBounds_toArray] | simp only [List.set_cons_zero] | simp only [List.set_cons_succ]))
          refine takeD (i := 17) (d := some 41) (v := undef) rfl rfl (by kernel_rfl) (by kernel_rfl) (by kernel_rfl) (fun _ _ _ h => h) (Or.inr ⟨by rfl, rfl⟩) hHeld ?_
          (repeat (first | simp only [Act.put] | simp only [List.setIfInBounds_toArray] | simp only [List.set_cons_zero] | simp only [List.set_cons_succ]))
          refine takeD (i := 18) (d := some 42) (v := undef) rfl rfl (by kernel_rfl) (by kernel_rfl) (by kernel_rfl) (fun _ _ _ h => h) (Or.inr ⟨by rfl, rfl⟩) hHeld ?_
          (repeat (first | simp only [Act.put] | simp only [List.setIfInBounds_toArray] | simp only [List.set_cons_zero] | simp only [List.set_cons_succ]))
          refine takeD (i := 19) (d := some 43) (v := undef) rfl rfl (by kernel_rfl) (by kernel_rfl) (by kernel_rfl) (fun _ _ _ h => h) (Or.inr ⟨by rfl, rfl⟩) hHeld ?_
          (repeat (first | simp only [Act.put] | simp only [List.setIfInBounds_toArray] | simp only [List.set_cons_zero] | simp only [List.set_cons_succ]))
          refine takeD (i := 20) (d := some 44) (v := undef) rfl rfl (by kernel_rfl) (by kernel_rfl) (by kernel_rfl) (fun _ _ _ h => h) (Or.inr ⟨by rfl, rfl⟩) hHeld ?_
          (repeat (first | simp only [Act.put] | simp only [List.setIfInBounds_toArray] | simp only [List.set_cons_zero] | simp only [List.set_cons_succ]))
          refine takeD (i := 21) (d := some 45) (v := undef) rfl rfl (by kernel_rfl) (by kernel_rfl) (by kernel_rfl) (fun _ _ _ h => h) (Or.inr ⟨by rfl, rfl⟩) hHeld ?_
          (repeat (first | simp only [Act.put] | simp only [List.setIfInBounds_toArray] | simp only [List.set_cons_zero] | simp only [List.set_cons_succ]))
          refine takeD (i := 22) (d := some 46) (v := undef) rfl rfl (by kernel_rfl) (by kernel_rfl) (by kernel_rfl) (fun _ _ _ h => h) (Or.inr ⟨by rfl, rfl⟩) hHeld ?_
          (repeat (first | simp only [Act.put] | simp only [List.setIfInBounds_toArray] | simp only [List.set_cons_zero] | simp only [List.set_cons_succ]))
          refine takeD (i := 23) (d := some 47) (v := undef) rfl rfl (by kernel_rfl) (by kernel_rfl) (by kernel_rfl) (fun _ _ _ h => h) (Or.inr ⟨by rfl, rfl⟩) hHeld ?_
          (repeat (first | simp only [Act.put] | simp only [List.setIfInBounds_toArray] | simp only [List.set_cons_zero] | simp only [List.set_cons_succ]))
          refine takeD (i := 24) (d := some 48) (v := undef) rfl rfl (by kernel_rfl) (by kernel_rfl) (by kernel_rfl) (fun _ _ _ h => h) (Or.inr ⟨by rfl, rfl⟩) hHeld ?_
          (repeat (first | simp only [Act.put] | simp only [List.setIfInBounds_toArray] | simp only [List.set_cons_zero] | simp only [List.set_cons_succ]))
          refine takeD (i := 25) (d := some 49) (v := undef) rfl rfl (by kernel_rfl) (by kernel_rfl) (by kernel_rfl) (fun _ _ _ h => h) (Or.inr ⟨by rfl, rfl⟩) hHeld ?_
          (repeat (first | simp only [Act.put] | simp only [List.setIfInBounds_toArray] | simp only [List.set_cons_zero] | simp only [List.set_cons_succ]))
          refine takeD (i := 26) (d := some 50) (v := undef) rfl rfl (by kernel_rfl) (by kernel_rfl) (by kernel_rfl) (fun _ _ _ h => h) (Or.inr ⟨by rfl, rfl⟩) hHeld ?_
          (repeat (first | simp only [Act.put] | simp only [List.setIfInBounds_toArray] | simp only [List.set_cons_zero] | simp only [List.set_cons_succ]))
          refine takeD (i := 27) (d := some 51) (v := undef) rfl rfl (by kernel_rfl) (by kernel_rfl) (by kernel_rfl) (fun _ _ _ h => h) (Or.inr ⟨by rfl, rfl⟩) hHeld ?_
          (repeat (first | simp only [Act.put] | simp only [List.setIfInBounds_toArray] | simp only [List.set_cons_zero] | simp only [List.set_cons_succ]))
          refine takeD (i := 28) (d := some 52) (v := undef) rfl rfl (by kernel_rfl) (by kernel_rfl) (by kernel_rfl) (fun _ _ _ h => h) (Or.inr ⟨by rfl, rfl⟩) hHeld ?_
          (repeat (first | simp only [Act.put] | simp only [List.setIfInBounds_toArray] | simp only [List.set_cons_zero] | simp only [List.set_cons_succ]))
          refine takeD (i := 29) (d := some 53) (v := undef) rfl rfl (by kernel_rfl) (by kernel_rfl) (by kernel_rfl) (fun _ _ _ h => h) (Or.inr ⟨by rfl, rfl⟩) hHeld ?_
          (repeat (first | simp only [Act.put] | simp only [List.setIfInBounds_toArray] | simp only [List.set_cons_zero] | simp only [List.set_cons_succ]))
          refine takeD (i := 30) (d := some 54) (v := undef) rfl rfl (by kernel_rfl) (by kernel_rfl) (by kernel_rfl) (fun _ _ _ h => h) (Or.inr ⟨by rfl, rfl⟩) hHeld ?_
          (repeat (first | simp only [Act.put] | simp only [List.setIfInBounds_toArray] | simp only [List.set_cons_zero] | simp only [List.set_cons_succ]))
          refine takeD (i := 31) (d := some 55) (v := ?_) rfl rfl (by kernel_rfl) (by kernel_rfl) (by kernel_rfl) (fun _ _ _ h => h) (Or.inl ⟨by rfl, ?_⟩) hHeld ?_
          rotate_left 1
          focus (intro w hSw; (try dsimp only at hSw); go_simp; (try with_reducible rfl))
          (repeat (first | simp only [Act.put] | simp only [List.setIfInBounds_toArray] | simp only [List.set_cons_zero] | simp only [List.set_cons_succ]))
          refine wpAnyH_done (by kernel_rfl) ?_ _
          have hz : f = false := HFn.out
          go_wp2_with fail
          go_meet
          case rel => exact ⟨rfl, by rw [hz]; rfl, Lib.hid (by repeat (first | with_reducible exact Below.refl _ _ | with_reducible exact HB9.out | (with_reducible refine Below.drew ?_)))⟩
        · skip
          have HGD := Lib.hid hgd
          clear hgd
          refine takeD (i := 5) (d := some 29) (v := ?_) rfl rfl (by kernel_rfl) (by kernel_rfl) (by kernel_rfl) (fun _ _ _ h => h) (Or.inl ⟨by rfl, ?_⟩) hHeld ?_
          rotate_left 1
          focus (intro w hSw; (try dsimp only at hSw); go_simp; (try with_reducible rfl))
          (repeat (first | simp only [Act.put] | simp only [List.setIfInBounds_toArray] | simp only [List.set_cons_zero] | simp only [List.set_cons_succ]))
          refine takeD (i := 6) (d := some 30) (v := ?_) rfl rfl (by kernel_rfl) (by kernel_rfl) (by kernel_rfl) (fun _ _ _ h => h) (Or.inl ⟨by rfl, ?_⟩) hHeld ?_
          rotate_left 1
          focus (intro w hSw; (try dsimp only at hSw); go_simp; (try with_reducible rfl))
          (repeat (first | simp only [Act.put] | simp only [List.setIfInBounds_toArray] | simp only [List.set_cons_zero] | simp only [List.set_cons_succ]))
          refine takeD (i := 7) (d := some 31) (v := ?_) rfl rfl (by kernel_rfl) (by kernel_rfl) (by kernel_rfl) (fun _ _ _ h => h) (Or.inl ⟨by rfl, ?_⟩) hHeld ?_
          rotate_left 1
          focus (intro w hSw; (try dsimp only at hSw); go_simp; (try with_reducible rfl))
          (repeat (first | simp only [Act.put] | simp only [List.setIfInBounds_toArray] | simp only [List.set_cons_zero] | simp only [List.set_cons_succ]))
          refine takeD (i := 8) (d := some 32) (v := ?_) rfl rfl (by kernel_rfl) (by kernel_rfl) (by kernel_rfl) (fun _ _ _ h => h) (Or.inl ⟨by rfl, ?_⟩) hHeld ?_
          rotate_left 1
          focus (intro w hSw; (try dsimp only at hSw); go_simp; (try with_reducible rfl))
          (repeat (first | simp only [Act.put] | simp only [List.setIfInBounds_toArray] | simp only [List.set_cons_zero] | simp only [List.set_cons_succ]))
          refine takeD (i := 9) (d := some 33) (v := ?_) rfl rfl (by kernel_rfl) (by kernel_rfl) (by kernel_rfl) (fun _ _ _ h => h) (Or.inl ⟨by rfl, ?_⟩) hHeld ?_
          rotate_left 1
          focus (intro w hSw; (try dsimp only at hSw); go_simp; (try with_reducible rfl))
          (repeat (first | simp only [Act.put] | simp only [List.setIfInBounds_toArray] | simp only [List.set_cons_zero] | simp only [List.set_cons_succ]))
          by_cases ho : kd % 2 = 1
          · skip
            have ho0 : (kd : Int).tmod 2 = 1 := by rw [Int.tmod_eq_emod_of_nonneg (by omega)]; omega
            have ho1 : (kd : Int) % 2 = 1 := by omega
            have hoX := Lib.hid ho
            clear ho
            by_cases hi0 : i = 0
            · skip
              have hi1 : ((i : Int) == 0) = true := by rw [beq_iff_eq]; omega
              have hi2 : (i == 0) = true := by rw [beq_iff_eq]; omega
              have hi3 : ¬ (0 : Int) < (i : Int) := by omega
              have hi4 : decide (0 < i) = false := decide_eq_false (by omega)
              have hiX := Lib.hid hi0
              clear hi0
              refine takeD (i := 10) (d := some 34) (v := ?_) rfl rfl (by kernel_rfl) (by kernel_rfl) (by kernel_rfl) (fun _ _ _ h => h) (Or.inl ⟨by rfl, ?_⟩) hHeld ?_
              rotate_left 1
              focus (intro w hSw; (try dsimp only at hSw); go_simp; (try with_reducible rfl))
              (repeat (first | simp only [Act.put] | simp only [List.setIfInBounds_toArray] | simp only [List.set_cons_zero] | simp only [List.set_cons_succ]))
              refine takeD (i := 11) (d := some 35) (v := ?_) rfl rfl (by kernel_rfl) (by kernel_rfl) (by kernel_rfl) (fun _ _ _ h => h) (Or.inl ⟨by rfl, ?_⟩) hHeld ?_
              rotate_left 1
              focus (intro w hSw; (try dsimp only at hSw); go_simp; (try with_reducible rfl))
              (repeat (first | simp only [Act.put] | simp only [List.setIfInBounds_toArray] | simp only [List.set_cons_zero] | simp only [List.set_cons_succ]))
              refine takeD (i := 12) (d := some 36) (v := ?_) rfl rfl (by kernel_rfl) (by kernel_rfl) (by kernel_rfl) (fun _ _ _ h => h) (Or.inl ⟨by rfl, ?_⟩) hHeld ?_
              rotate_left 1
              focus (intro w hSw; (try dsimp only at hSw); go_simp; (try with_reducible rfl))
              (repeat (first | simp only [Act.put] | simp only [List.setIfInBounds_toArray] | simp only [List.set_cons_zero] | simp only [List.set_cons_succ]))
              refine takeD (i := 13) (d := some 37) (v := ?_) rfl rfl (by kernel_rfl) (by kernel_rfl) (by kernel_rfl) (fun _ _ _ h => h) (Or.inl ⟨by rfl, ?_⟩) hHeld ?_
              rotate_left 1
              focus (intro w hSw; (try dsimp only at hSw); go_simp; (try with_reducible rfl))
              (repeat (first | simp only [Act.put] | simp only [List.setIfInBounds_toArray] | simp only [List.set_cons_zero] | simp only [List.set_cons_succ]))
              refine takeD (i := 14) (d := some 38) (v := ?_) rfl rfl (by kernel_rfl) (by kernel_rfl) (by kernel_rfl) (fun _ _ _ h => h) (Or.inl ⟨by rfl, ?_⟩) hHeld ?_
              rotate_left 1
              focus (intro w hSw; (try dsimp only at hSw); go_simp; (try with_reducible rfl))
              (repeat (first | simp only [Act.put] | simp only [List.setIfInBounds_toArray] | simp only [List.set_cons_zero] | simp only [List.set_cons_succ]))
              refine takeD (i := 15) (d := some 39) (v := ?_) rfl rfl (by kernel_rfl) (by kernel_rfl) (by kernel_rfl) (fun _ _ _ h => h) (Or.inl ⟨by rfl, ?_⟩) hHeld ?_
              rotate_left 1
              focus (intro w hSw; (try dsimp only at hSw); go_simp; (try with_reducible rfl))
              (repeat (first | simp only [Act.put] | simp only [List.setIfInBounds_toArray] | simp only [List.set_cons_zero] | simp only [List.set_cons_succ]))
              refine takeD (i := 16) (d := some 40) (v := ?_) rfl rfl (by kernel_rfl) (by kernel_rfl) (by kernel_rfl) (fun _ _ _ h => h) (Or.inl ⟨by rfl, ?_⟩) hHeld ?_
              rotate_left 1
              focus (intro w hSw; (try dsimp only at hSw); go_simp; (try with_reducible rfl))
              (repeat (first | simp only [Act.put] | simp only [List.setIfInBounds_toArray] | simp only [List.set_cons_zero] | simp only [List.set_cons_succ]))
              refine takeD (i := 17) (d := some 41) (v := ?_) rfl rfl (by kernel_rfl) (by kernel_rfl) (by kernel_rfl) (fun _ _ _ h => h) (Or.inl ⟨by rfl, ?_⟩) hHeld ?_
              rotate_left 1
              focus (intro w hSw; (try dsimp only at hSw); go_simp; (try with_reducible rfl))
              (repeat (first | simp only [Act.put] | simp only [List.setIfInBounds_toArray] | simp only [List.set_cons_zero] | simp only [List.set_cons_succ]))
              refine takeD (i := 18) (d := some 42) (v := ?_) rfl rfl (by kernel_rfl) (by kernel_rfl) (by kernel_rfl) (fun _ _ _ h => h) (Or.inl ⟨by rfl, ?_⟩) hHeld ?_
              rotate_left 1
              focus (intro w hSw; (try dsimp only at hSw); go_simp; (try with_reducible rfl))
              (repeat (first | simp only [Act.put] | simp only [List.setIfInBounds_toArray] | simp only [List.set_cons_zero] | simp only [List.set_cons_succ]))
              refine takeD (i := 19) (d := some 43) (v := ?_) rfl rfl (by kernel_rfl) (by kernel_rfl) (by kernel_rfl) (fun _ _ _ h => h) (Or.inl ⟨by rfl, ?_⟩) hHeld ?_
              rotate_left 1
              focus (intro w hSw; (try dsimp only at hSw); go_simp; (try with_reducible rfl))
              (repeat (first | simp only [Act.put] | simp only [List.setIfInBounds_toArray] | simp only [List.set_cons_zero] | simp only [List.set_cons_succ]))
              have HFy := Lib.hid (show f = true by
                have := hiX.out
                rw [HF.out]; unfold fitS
                rw [HGD.out, ← HKD.out, decide_eq_true (show kd % 2 = 1 from hoX.out), decide_eq_true (show a + i = a by omega), decide_eq_true (HG0.out this)]; rfl)
              refine takeD (i := 20) (d := some 44) (v := undef) rfl rfl (by kernel_rfl) (by kernel_rfl) (by kernel_rfl) (fun _ _ _ h => h) (Or.inr ⟨by rfl, rfl⟩) hHeld ?_
              (repeat (first | simp only [Act.put] | simp only [List.setIfInBounds_toArray] | simp only [List.set_cons_zero] | simp only [List.set_cons_succ]))
              refine takeD (i := 21) (d := some 45) (v := undef) rfl rfl (by kernel_rfl) (by kernel_rfl) (by kernel_rfl) (fun _ _ _ h => h) (Or.inr ⟨by rfl, rfl⟩) hHeld ?_
              (repeat (first | simp only [Act.put] | simp only [List.setIfInBounds_toArray] | simp only [List.set_cons_zero] | simp only [List.set_cons_succ]))
              refine takeD (i := 22) (d := some 46) (v := undef) rfl rfl (by kernel_rfl) (by kernel_rfl) (by kernel_rfl) (fun _ _ _ h => h) (Or.inr ⟨by rfl, rfl⟩) hHeld ?_
              (repeat (first | simp only [Act.put] | simp only [List.setIfInBounds_toArray] | simp only [List.set_cons_zero] | simp only [List.set_cons_succ]))
              refine takeD (i := 23) (d := some 47) (v := undef) rfl rfl (by kernel_rfl) (by kernel_rfl) (by kernel_rfl) (fun _ _ _ h => h) (Or.inr ⟨by rfl, rfl⟩) hHeld ?_
              (repeat (first | simp only [Act.put] | simp only [List.setIfInBounds_toArray] | simp only [List.set_cons_zero] | simp only [List.set_cons_succ]))
              refine takeD (i := 24) (d := some 48) (v := undef) rfl rfl (by kernel_rfl) (by kernel_rfl) (by kernel_rfl) (fun _ _ _ h => h) (Or.inr ⟨by rfl, rfl⟩) hHeld ?_
              (repeat (first | simp only [Act.put] | simp only [List.setIfInBounds_toArray] | simp only [List.set_cons_zero] | simp only [List.set_cons_succ]))
              refine takeD (i := 25) (d := some 49) (v := undef) rfl rfl (by kernel_rfl) (by kernel_rfl) (by kernel_rfl) (fun _ _ _ h => h) (Or.inr ⟨by rfl, rfl⟩) hHeld ?_
              (repeat (first | simp only [Act.put] | simp only [List.setIfInBounds_toArray] | simp only [List.set_cons_zero] | simp only [List.set_cons_succ]))
              refine takeD (i := 26) (d := some 50) (v := undef) rfl rfl (by kernel_rfl) (by kernel_rfl) (by kernel_rfl) (fun _ _ _ h => h) (Or.inr ⟨by rfl, rfl⟩) hHeld ?_
              (repeat (first | simp only [Act.put] | simp only [List.setIfInBounds_toArray] | simp only [List.set_cons_zero] | simp only [List.set_cons_succ]))
              refine takeD (i := 27) (d := some 51) (v := undef) rfl rfl (by kernel_rfl) (by kernel_rfl) (by kernel_rfl) (fun _ _ _ h => h) (Or.inr ⟨by rfl, rfl⟩) hHeld ?_
              (repeat (first | simp only [Act.put] | simp only [List.setIfInBounds_toArray] | simp only [List.set_cons_zero] | simp only [List.set_cons_succ]))
              refine takeD (i := 28) (d := some 52) (v := undef) rfl rfl (by kernel_rfl) (by kernel_rfl) (by kernel_rfl) (fun _ _ _ h => h) (Or.inr ⟨by rfl, rfl⟩) hHeld ?_
              (repeat (first | simp only [Act.put] | simp only [List.setIfInBounds_toArray] | simp only [List.set_cons_zero] | simp only [List.set_cons_succ]))
              refine takeD (i := 29) (d := some 53) (v := undef) rfl rfl (by kernel_rfl) (by kernel_rfl) (by kernel_rfl) (fun _ _ _ h => h) (Or.inr ⟨by rfl, rfl⟩) hHeld ?_
              (repeat (first | simp only [Act.put] | simp only [List.setIfInBounds_toArray] | simp only [List.set_cons_zero] | simp only [List.set_cons_succ]))
              refine takeD (i := 30) (d := some 54) (v := ?_) rfl rfl (by kernel_rfl) (by kernel_rfl) (by kernel_rfl) (fun _ _ _ h => h) (Or.inl ⟨by rfl, ?_⟩) hHeld ?_
              rotate_left 1
              focus (intro w hSw; (try dsimp only at hSw); go_simp; (try with_reducible rfl))
              (repeat (first | simp only [Act.put] | simp only [List.setIfInBounds_toArray] | simp only [List.set_cons_zero] | simp only [List.set_cons_succ]))
              refine takeD (i := 31) (d := some 55) (v := ?_) rfl rfl (by kernel_rfl) (by kernel_rfl) (by kernel_rfl) (fun _ _ _ h => h) (Or.inl ⟨by rfl, ?_⟩) hHeld ?_
              rotate_left 1
              focus (intro w hSw; (try dsimp only at hSw); go_simp; (try with_reducible rfl))
              (repeat (first | simp only [Act.put] | simp only [List.setIfInBounds_toArray] | simp only [List.set_cons_zero] | simp only [List.set_cons_succ]))
              refine wpAnyH_done (by kernel_rfl) ?_ _
              have hz : f = true := HFy.out
              go_wp2_with fail
              go_meet
              case rel => exact ⟨rfl, by rw [hz]; rfl, Lib.hid (by repeat (first | with_reducible exact Below.refl _ _ | with_reducible exact HB9.out | (with_reducible refine Below.drew ?_)))⟩
            · skip
              have hi1 : ((i : Int) == 0) = false := by rw [beq_eq_false_iff_ne]; omega
              have hi2 : (i == 0) = false := by rw [beq_eq_false_iff_ne]; omega
              have hi3 : (0 : Int) < (i : Int) := by omega
              have hi4 : 0 < i := by omega
              have hiX := Lib.hid hi0
              clear hi0
              have HFn := Lib.hid (show f = false by
                rw [HF.out]; unfold fitS
                rw [HGD.out, ← HKD.out, decide_eq_true (show kd % 2 = 1 from hoX.out), decide_eq_false (show ¬ a + i = a by have := hiX.out; omega)]; rfl)
              refine takeD (i := 10) (d := some 34) (v := ?_) rfl rfl (by kernel_rfl) (by kernel_rfl) (by kernel_rfl) (fun _ _ _ h => h) (Or.inl ⟨by rfl, ?_⟩) hHeld ?_
              rotate_left 1
              focus (intro w hSw; (try dsimp only at hSw); go_simp; (try with_reducible rfl))
              (repeat (first | simp only [Act.put] | simp only [List.setIfInBounds_toArray] | simp only [List.set_cons_zero] | simp only [List.set_cons_succ]))
              refine takeD (i := 11) (d := some 35) (v := ?_) rfl rfl (by kernel_rfl) (by kernel_rfl) (by kernel_rfl) (fun _ _ _ h => h) (Or.inl ⟨by rfl, ?_⟩) hHeld ?_
              rotate_left 1
              focus (intro w hSw; (try dsimp only at hSw); go_simp; (try with_reducible rfl))
              (repeat (first | simp only [Act.put] | simp only [List.setIfInBounds_toArray] | simp only [List.set_cons_zero] | simp only [List.set_cons_succ]))
              refine takeD (i := 12) (d := some 36) (v := ?_) rfl rfl (by kernel_rfl) (by kernel_rfl) (by kernel_rfl) (fun _ _ _ h => h) (Or.inl ⟨by rfl, ?_⟩) hHeld ?_
              rotate_left 1
              focus (intro w hSw; (try dsimp only at hSw); go_simp; (try with_reducible rfl))
              (repeat (first | simp only [Act.put] | simp only [List.setIfInBounds_toArray] | simp only [List.set_cons_zero] | simp only [List.set_cons_succ]))
              refine takeD (i := 13) (d := some 37) (v := ?_) rfl rfl (by kernel_rfl) (by kernel_rfl) (by kernel_rfl) (fun _ _ _ h => h) (Or.inl ⟨by rfl, ?_⟩) hHeld ?_
              rotate_left 1
              focus (intro w hSw; (try dsimp only at hSw); go_simp; (try with_reducible rfl))
              (repeat (first | simp only [Act.put] | simp only [List.setIfInBounds_toArray] | simp only [List.set_cons_zero] | simp only [List.set_cons_succ]))
              refine takeD (i := 14) (d := some 38) (v := ?_) rfl rfl (by kernel_rfl) (by kernel_rfl) (by kernel_rfl) (fun _ _ _ h => h) (Or.inl ⟨by rfl, ?_⟩) hHeld ?_
              rotate_left 1
              focus (intro w hSw; (try dsimp only at hSw); go_simp; (try with_reducible rfl))
              (repeat (first | simp only [Act.put] | simp only [List.setIfInBounds_toArray] | simp only [List.set_cons_zero] | simp only [List.set_cons_succ]))
              refine takeD (i := 15) (d := some 39) (v := ?_) rfl rfl (by kernel_rfl) (by kernel_rfl) (by kernel_rfl) (fun _ _ _ h => h) (Or.inl ⟨by rfl, ?_⟩) hHeld ?_
              rotate_left 1
              focus (intro w hSw; (try dsimp only at hSw); go_simp; (try with_reducible rfl))
              (repeat (first | simp only [Act.put] | simp only [List.setIfInBounds_toArray] | simp only [List.set_cons_zero] | simp only [List.set_cons_succ]))
              refine takeD (i := 16) (d := some 40) (v := ?_) rfl rfl (by kernel_rfl) (by kernel_rfl) (by kernel_rfl) (fun _ _ _ h => h) (Or.inl ⟨by rfl, ?_⟩) hHeld ?_
              rotate_left 1
              focus (intro w hSw; (try dsimp only at hSw); go_simp; (try with_reducible rfl))
              (repeat (first | simp only [Act.put] | simp only [List.setIfInBounds_toArray] | simp only [List.set_cons_zero] | simp only [List.set_cons_succ]))
              refine takeD (i := 17) (d := some 41) (v := undef) rfl rfl (by kernel_rfl) (by kernel_rfl) (by kernel_rfl) (fun _ _ _ h => h) (Or.inr ⟨by rfl, rfl⟩) hHeld ?_
              (repeat (first | simp only [Act.put] | simp only [List.setIfInBounds_toArray] | simp only [List.set_cons_zero] | simp only [List.set_cons_succ]))
              refine takeD (i := 18) (d := some 42) (v := undef) rfl rfl (by kernel_rfl) (by kernel_rfl) (by kernel_rfl) (fun _ _ _ h => h) (Or.inr ⟨by rfl, rfl⟩) hHeld ?_
              (repeat (first | simp only [Act.put] | simp only [List.setIfInBounds_toArray] | simp only [List.set_cons_zero] | simp only [List.set_cons_succ]))
              refine takeD (i := 19) (d := some 43) (v := undef) rfl rfl (by kernel_rfl) (by kernel_rfl) (by kernel_rfl) (fun _ _ _ h => h) (Or.inr ⟨by rfl, rfl⟩) hHeld ?_
              (repeat (first | simp only [Act.put] | simp only [List.setIfInBounds_toArray] | simp only [List.set_cons_zero] | simp only [List.set_cons_succ]))
              refine takeD (i := 20) (d := some 44) (v := undef) rfl rfl (by kernel_rfl) (by kernel_rfl) (by kernel_rfl) (fun _ _ _ h => h) (Or.inr ⟨by rfl, rfl⟩) hHeld ?_
              (repeat (first | simp only [Act.put] | simp only [List.setIfInBounds_toArray] | simp only [List.set_cons_zero] | simp only [List.set_cons_succ]))
              refine takeD (i := 21) (d := some 45) (v := undef) rfl rfl (by kernel_rfl) (by kernel_rfl) (by kernel_rfl) (fun _ _ _ h => h) (Or.inr ⟨by rfl, rfl⟩) hHeld ?_
              (repeat (first | simp only [Act.put] | simp only [List.setIfInBounds_toArray] | simp only [List.set_cons_zero] | simp only [List.set_cons_succ]))
              refine takeD (i := 22) (d := some 46) (v := undef) rfl rfl (by kernel_rfl) (by kernel_rfl) (by kernel_rfl) (fun _ _ _ h => h) (Or.inr ⟨by rfl, rfl⟩) hHeld ?_
              (repeat (first | simp only [Act.put] | simp only [List.setIfInBounds_toArray] | simp only [List.set_cons_zero] | simp only [List.set_cons_succ]))
              refine takeD (i := 23) (d := some 47) (v := undef) rfl rfl (by kernel_rfl) (by kernel_rfl) (by kernel_rfl) (fun _ _ _ h => h) (Or.inr ⟨by rfl, rfl⟩) hHeld ?_
              (repeat (first | simp only [Act.put] | simp only [List.setIfInBounds_toArray] | simp only [List.set_cons_zero] | simp only [List.set_cons_succ]))
              refine takeD (i := 24) (d := some 48) (v := undef) rfl rfl (by kernel_rfl) (by kernel_rfl) (by kernel_rfl) (fun _ _ _ h => h) (Or.inr ⟨by rfl, rfl⟩) hHeld ?_
              (repeat (first | simp only [Act.put] | simp only [List.setIfInBounds_toArray] | simp only [List.set_cons_zero] | simp only [List.set_cons_succ]))
              refine takeD (i := 25) (d := some 49) (v := undef) rfl rfl (by kernel_rfl) (by kernel_rfl) (by kernel_rfl) (fun _ _ _ h => h) (Or.inr ⟨by rfl, rfl⟩) hHeld ?_
              (repeat (first | simp only [Act.put] | simp only [List.setIfInBounds_toArray] | simp only [List.set_cons_zero] | simp only [List.set_cons_succ]))
              refine takeD (i := 26) (d := some 50) (v := undef) rfl rfl (by kernel_rfl) (by kernel_rfl) (by kernel_rfl) (fun _ _ _ h => h) (Or.inr ⟨by rfl, rfl⟩) hHeld ?_
              (repeat (first | simp only [Act.put] | simp only [List.setIfInBounds_toArray] | simp only [List.set_cons_zero] | simp only [List.set_cons_succ]))
              refine takeD (i := 27) (d := some 51) (v := undef) rfl rfl (by kernel_rfl) (by kernel_rfl) (by kernel_rfl) (fun _ _ _ h => h) (Or.inr ⟨by rfl, rfl⟩) hHeld ?_
              (repeat (first | simp only [Act.put] | simp only [List.setIfInBounds_toArray] | simp only [List.set_cons_zero] | simp only [List.set_cons_succ]))
              refine takeD (i := 28) (d := some 52) (v := undef) rfl rfl (by kernel_rfl) (by kernel_rfl) (by kernel_rfl) (fun _ _ _ h => h) (Or.inr ⟨by rfl, rfl⟩) hHeld ?_
              (repeat (first | simp only [Act.put] | simp only [List.setIfInBounds_toArray] | simp only [List.set_cons_zero] | simp only [List.set_cons_succ]))
              refine takeD (i := 29) (d := some 53) (v := undef) rfl rfl (by kernel_rfl) (by kernel_rfl) (by kernel_rfl) (fun _ _ _ h => h) (Or.inr ⟨by rfl, rfl⟩) hHeld ?_
              (repeat (first | simp only [Act.put] | simp only [List.setIfInBounds_toArray] | simp only [List.set_cons_zero] | simp only [List.set_cons_succ]))
              refine takeD (i := 30) (d := some 54) (v := undef) rfl rfl (by kernel_rfl) (by kernel_rfl) (by kernel_rfl) (fun _ _ _ h => h) (Or.inr ⟨by rfl, rfl⟩) hHeld ?_
              (repeat (first | simp only [Act.put] | simp only [List.setIfInBounds_toArray] | simp only [List.set_cons_zero] | simp only [List.set_cons_succ]))
              refine takeD (i := 31) (d := some 55) (v := ?_) rfl rfl (by kernel_rfl) (by kernel_rfl) (by kernel_rfl) (fun _ _ _ h => h) (Or.inl ⟨by rfl, ?_⟩) hHeld ?_
              rotate_left 1
              focus (intro w hSw; (try dsimp only at hSw); go_simp; (try with_reducible rfl))
              (repeat (first | simp only [Act.put] | simp only [List.setIfInBounds_toArray] | simp only [List.set_cons_zero] | simp only [List.set_cons_succ]))
              refine wpAnyH_done (by kernel_rfl) ?_ _
              have hz : f = false := HFn.out
              go_wp2_with fail
              go_meet
              case rel => exact ⟨rfl, by rw [hz]; rfl, Lib.hid (by repeat (first | with_reducible exact Below.refl _ _ | with_reducible exact HB9.out | (with_reducible refine Below.drew ?_)))⟩
          · skip
            have ho0 : (kd : Int).tmod 2 = 0 := by rw [Int.tmod_eq_emod_of_nonneg (by omega)]; omega
            have ho1 : (kd : Int) % 2 = 0 := by omega
            have hoX := Lib.hid ho
            clear ho
            by_cases hi0 : i = 0
            · skip
              have hi1 : ((i : Int) == 0) = true := by rw [beq_iff_eq]; omega
              have hi2 : (i == 0) = true := by rw [beq_iff_eq]; omega
              have hi3 : ¬ (0 : Int) < (i : Int) := by omega
              have hi4 : decide (0 < i) = false := decide_eq_false (by omega)
              have hiX := Lib.hid hi0
              clear hi0
              have HFn := Lib.hid (show f = false by
                rw [HF.out]; unfold fitS
                rw [HGD.out, ← HKD.out, decide_eq_false (show ¬ kd % 2 = 1 from hoX.out), decide_eq_true (show a + i = a by have := hiX.out; omega)]; rfl)
              refine takeD (i := 10) (d := some 34) (v := ?_) rfl rfl (by kernel_rfl) (by kernel_rfl) (by kernel_rfl) (fun _ _ _ h => h) (Or.inl ⟨by rfl, ?_⟩) hHeld ?_
              rotate_left 1
              focus (intro w hSw; (try dsimp only at hSw); go_simp; (try with_reducible rfl))
              (repeat (first | simp only [Act.put] | simp only [List.setIfInBounds_toArray] | simp only [List.set_cons_zero] | simp only [List.set_cons_succ]))
              refine takeD (i := 11) (d := some 35) (v := ?_) rfl rfl (by kernel_rfl) (by kernel_rfl) (by kernel_rfl) (fun _ _ _ h => h) (Or.inl ⟨by rfl, ?_⟩) hHeld ?_
              rotate_left 1
              focus (intro w hSw; (try dsimp only at hSw); go_simp; (try with_reducible rfl))
              (repeat (first | simp only [Act.put] | simp only [List.setIfInBounds_toArray] | simp only [List.set_cons_zero] | simp only [List.set_cons_succ]))
              refine takeD (i := 12) (d := some 36) (v := ?_) rfl rfl (by kernel_rfl) (by kernel_rfl) (by kernel_rfl) (fun _ _ _ h => h) (Or.inl ⟨by rfl, ?_⟩) hHeld ?_
              rotate_left 1
              focus (intro w hSw; (try dsimp only at hSw); go_simp; (try with_reducible rfl))
              (repeat (first | simp only [Act.put] | simp only [List.setIfInBounds_toArray] | simp only [List.set_cons_zero] | simp only [List.set_cons_succ]))
              refine takeD (i := 13) (d := some 37) (v := ?_) rfl rfl (by kernel_rfl) (by kernel_rfl) (by kernel_rfl) (fun _ _ _ h => h) (Or.inl ⟨by rfl, ?_⟩) hHeld ?_
              rotate_left 1
              focus (intro w hSw; (try dsimp only at hSw); go_simp; (try with_reducible rfl))
              (repeat (first | simp only [Act.put] | simp only [List.setIfInBounds_toArray] | simp only [List.set_cons_zero] | simp only [List.set_cons_succ]))
              refine takeD (i := 14) (d := some 38) (v := ?_) rfl rfl (by kernel_rfl) (by kernel_rfl) (by kernel_rfl) (fun _ _ _ h => h) (Or.inl ⟨by rfl, ?_⟩) hHeld ?_
              rotate_left 1
              focus (intro w hSw; (try dsimp only at hSw); go_simp; (try with_reducible rfl))
              (repeat (first | simp only [Act.put] | simp only [List.setIfInBounds_toArray] | simp only [List.set_cons_zero] | simp only [List.set_cons_succ]))
              refine takeD (i := 15) (d := some 39) (v := ?_) rfl rfl (by kernel_rfl) (by kernel_rfl) (by kernel_rfl) (fun _ _ _ h => h) (Or.inl ⟨by rfl, ?_⟩) hHeld ?_
              rotate_left 1
              focus (intro w hSw; (try dsimp only at hSw); go_simp; (try with_reducible rfl))
              (repeat (first | simp only [Act.put] | simp only [List.setIfInBounds_toArray] | simp only [List.set_cons_zero] | simp only [List.set_cons_succ]))
              refine takeD (i := 16) (d := some 40) (v := ?_) rfl rfl (by kernel_rfl) (by kernel_rfl) (by kernel_rfl) (fun _ _ _ h => h) (Or.inl ⟨by rfl, ?_⟩) hHeld ?_
              rotate_left 1
              focus (intro w hSw; (try dsimp only at hSw); go_simp; (try with_reducible rfl))
              (repeat (first | simp only [Act.put] | simp only [List.setIfInBounds_toArray] | simp only [List.set_cons_zero] | simp only [List.set_cons_succ]))
              refine takeD (i := 17) (d := some 41) (v := undef) rfl rfl (by kernel_rfl) (by kernel_rfl) (by kernel_rfl) (fun _ _ _ h => h) (Or.inr ⟨by rfl, rfl⟩) hHeld ?_
              (repeat (first | simp only [Act.put] | simp only [List.setIfInBounds_toArray] | simp only [List.set_cons_zero] | simp only [List.set_cons_succ]))
              refine takeD (i := 18) (d := some 42) (v := undef) rfl rfl (by kernel_rfl) (by kernel_rfl) (by kernel_rfl) (fun _ _ _ h => h) (Or.inr ⟨by rfl, rfl⟩) hHeld ?_
              (repeat (first | simp only [Act.put] | simp only [List.setIfInBounds_toArray] | simp only [List.set_cons_zero] | simp only [List.set_cons_succ]))
              refine takeD (i := 19) (d := some 43) (v := undef) rfl rfl (by kernel_rfl) (by kernel_rfl) (by kernel_rfl) (fun _ _ _ h => h) (Or.inr ⟨by rfl, rfl⟩) hHeld ?_
              (repeat (first | simp only [Act.put] | simp only [List.setIfInBounds_toArray] | simp only [List.set_cons_zero] | simp only [List.set_cons_succ]))
              refine takeD (i := 20) (d := some 44) (v := undef) rfl rfl (by kernel_rfl) (by kernel_rfl) (by kernel_rfl) (fun _ _ _ h => h) (Or.inr ⟨by rfl, rfl⟩) hHeld ?_
              (repeat (first | simp only [Act.put] | simp only [List.setIfInBounds_toArray] | simp only [List.set_cons_zero] | simp only [List.set_cons_succ]))
              refine takeD (i := 21) (d := some 45) (v := undef) rfl rfl (by kernel_rfl) (by kernel_rfl) (by kernel_rfl) (fun _ _ _ h => h) (Or.inr ⟨by rfl, rfl⟩) hHeld ?_
              (repeat (first | simp only [Act.put] | simp only [List.setIfInBounds_toArray] | simp only [List.set_cons_zero] | simp only [List.set_cons_succ]))
              refine takeD (i := 22) (d := some 46) (v := undef) rfl rfl (by kernel_rfl) (by kernel_rfl) (by kernel_rfl) (fun _ _ _ h => h) (Or.inr ⟨by rfl, rfl⟩) hHeld ?_
              (repeat (first | simp only [Act.put] | simp only [List.setIfInBounds_toArray] | simp only [List.set_cons_zero] | simp only [List.set_cons_succ]))
              refine takeD (i := 23) (d := some 47) (v := undef) rfl rfl (by kernel_rfl) (by kernel_rfl) (by kernel_rfl) (fun _ _ _ h => h) (Or.inr ⟨by rfl, rfl⟩) hHeld ?_
              (repeat (first | simp only [Act.put] | simp only [List.setIfInBounds_toArray] | simp only [List.set_cons_zero] | simp only [List.set_cons_succ]))
              refine takeD (i := 24) (d := some 48) (v := undef) rfl rfl (by kernel_rfl) (by kernel_rfl) (by kernel_rfl) (fun _ _ _ h => h) (Or.inr ⟨by rfl, rfl⟩) hHeld ?_
              (repeat (first | simp only [Act.put] | simp only [List.setIfInBounds_toArray] | simp only [List.set_cons_zero] | simp only [List.set_cons_succ]))
              refine takeD (i := 25) (d := some 49) (v := undef) rfl rfl (by kernel_rfl) (by kernel_rfl) (by kernel_rfl) (fun _ _ _ h => h) (Or.inr ⟨by rfl, rfl⟩) hHeld ?_
              (repeat (first | simp only [Act.put] | simp only [List.setIfInBounds_toArray] | simp only [List.set_cons_zero] | simp only [List.set_cons_succ]))
              refine takeD (i := 26) (d := some 50) (v := undef) rfl rfl (by kernel_rfl) (by kernel_rfl) (by kernel_rfl) (fun _ _ _ h => h) (Or.inr ⟨by rfl, rfl⟩) hHeld ?_
              (repeat (first | simp only [Act.put] | simp only [List.setIfInBounds_toArray] | simp only [List.set_cons_zero] | simp only [List.set_cons_succ]))
              refine takeD (i := 27) (d := some 51) (v := undef) rfl rfl (by kernel_rfl) (by kernel_rfl) (by kernel_rfl) (fun _ _ _ h => h) (Or.inr ⟨by rfl, rfl⟩) hHeld ?_
              (repeat (first | simp only [Act.put] | simp only [List.setIfInBounds_toArray] | simp only [List.set_cons_zero] | simp only [List.set_cons_succ]))
              refine takeD (i := 28) (d := some 52) (v := undef) rfl rfl (by kernel_rfl) (by kernel_rfl) (by kernel_rfl) (fun _ _ _ h => h) (Or.inr ⟨by rfl, rfl⟩) hHeld ?_
              (repeat (first | simp only [Act.put] | simp only [List.setIfInBounds_toArray] | simp only [List.set_cons_zero] | simp only [List.set_cons_succ]))
              refine takeD (i := 29) (d := some 53) (v := undef) rfl rfl (by kernel_rfl) (by kernel_rfl) (by kernel_rfl) (fun _ _ _ h => h) (Or.inr ⟨by rfl, rfl⟩) hHeld ?_
              (repeat (first | simp only [Act.put] | simp only [List.setIfInBounds_toArray] | simp only [List.set_cons_zero] | simp only [List.set_cons_succ]))
              refine takeD (i := 30) (d := some 54) (v := undef) rfl rfl (by kernel_rfl) (by kernel_rfl) (by kernel_rfl) (fun _ _ _ h => h) (Or.inr ⟨by rfl, rfl⟩) hHeld ?_
              (repeat (first | simp only [Act.put] | simp only [List.setIfInBounds_toArray] | simp only [List.set_cons_zero] | simp only [List.set_cons_succ]))
              refine takeD (i := 31) (d := some 55) (v := ?_) rfl rfl (by kernel_rfl) (by kernel_rfl) (by kernel_rfl) (fun _ _ _ h => h) (Or.inl ⟨by rfl, ?_⟩) hHeld ?_
              rotate_left 1
              focus (intro w hSw; (try dsimp only at hSw); go_simp; (try with_reducible rfl))
              (repeat (first | simp only [Act.put] | simp only [List.setIfInBounds_toArray] | simp only [List.set_cons_zero] | simp only [List.set_cons_succ]))
              refine wpAnyH_done (by kernel_rfl) ?_ _
              have hz : f = false := HFn.out
              go_wp2_with fail
              go_meet
              case rel => exact ⟨rfl, by rw [hz]; rfl, Lib.hid (by repeat (first | with_reducible exact Below.refl _ _ | with_reducible exact HB9.out | (with_reducible refine Below.drew ?_)))⟩
            · skip
              have hi1 : ((i : Int) == 0) = false := by rw [beq_eq_false_iff_ne]; omega
              have hi2 : (i == 0) = false := by rw [beq_eq_false_iff_ne]; omega
              have hi3 : (0 : Int) < (i : Int) := by omega
              have hi4 : 0 < i := by omega
              have hiX := Lib.hid hi0
              clear hi0
              refine takeD (i := 10) (d := some 34) (v := ?_) rfl rfl (by kernel_rfl) (by kernel_rfl) (by kernel_rfl) (fun _ _ _ h => h) (Or.inl ⟨by rfl, ?_⟩) hHeld ?_
              rotate_left 1
              focus (intro w hSw; (try dsimp only at hSw); go_simp; (try with_reducible rfl))
              (repeat (first | simp only [Act.put] | simp only [List.setIfInBounds_toArray] | simp only [List.set_cons_zero] | simp only [List.set_cons_succ]))
              refine takeD (i := 11) (d := some 35) (v := ?_) rfl rfl (by kernel_rfl) (by kernel_rfl) (by kernel_rfl) (fun _ _ _ h => h) (Or.inl ⟨by rfl, ?_⟩) hHeld ?_
              rotate_left 1
              focus (intro w hSw; (try dsimp only at hSw); go_simp; (try with_reducible rfl))
              (repeat (first | simp only [Act.put] | simp only [List.setIfInBounds_toArray] | simp only [List.set_cons_zero] | simp only [List.set_cons_succ]))
              refine takeD (i := 12) (d := some 36) (v := ?_) rfl rfl (by kernel_rfl) (by kernel_rfl) (by kernel_rfl) (fun _ _ _ h => h) (Or.inl ⟨by rfl, ?_⟩) hHeld ?_
              rotate_left 1
              focus (intro w hSw; (try dsimp only at hSw); go_simp; (try with_reducible rfl))
              (repeat (first | simp only [Act.put] | simp only [List.setIfInBounds_toArray] | simp only [List.set_cons_zero] | simp only [List.set_cons_succ]))
              refine takeD (i := 13) (d := some 37) (v := ?_) rfl rfl (by kernel_rfl) (by kernel_rfl) (by kernel_rfl) (fun _ _ _ h => h) (Or.inl ⟨by rfl, ?_⟩) hHeld ?_
              rotate_left 1
              focus (intro w hSw; (try dsimp only at hSw); go_simp; (try with_reducible rfl))
              (repeat (first | simp only [Act.put] | simp only [List.setIfInBounds_toArray] | simp only [List.set_cons_zero] | simp only [List.set_cons_succ]))
              refine takeD (i := 14) (d := some 38) (v := ?_) rfl rfl (by kernel_rfl) (by kernel_rfl) (by kernel_rfl) (fun _ _ _ h => h) (Or.inl ⟨by rfl, ?_⟩) hHeld ?_
              rotate_left 1
              focus (intro w hSw; (try dsimp only at hSw); go_simp; (try with_reducible rfl))
              (repeat (first | simp only [Act.put] | simp only [List.setIfInBounds_toArray] | simp only [List.set_cons_zero] | simp only [List.set_cons_succ]))
              refine takeD (i := 15) (d := some 39) (v := ?_) rfl rfl (by kernel_rfl) (by kernel_rfl) (by kernel_rfl) (fun _ _ _ h => h) (Or.inl ⟨by rfl, ?_⟩) hHeld ?_
              rotate_left 1
              focus (intro w hSw; (try dsimp only at hSw); go_simp; (try with_reducible rfl))
              (repeat (first | simp only [Act.put] | simp only [List.setIfInBounds_toArray] | simp only [List.set_cons_zero] | simp only [List.set_cons_succ]))
              refine takeD (i := 16) (d := some 40) (v := ?_) rfl rfl (by kernel_rfl) (by kernel_rfl) (by kernel_rfl) (fun _ _ _ h => h) (Or.inl ⟨by rfl, ?_⟩) hHeld ?_
              rotate_left 1
              focus (intro w hSw; (try dsimp only at hSw); go_simp; (try with_reducible rfl))
              (repeat (first | simp only [Act.put] | simp only [List.setIfInBounds_toArray] | simp only [List.set_cons_zero] | simp only [List.set_cons_succ]))
              refine takeD (i := 17) (d := some 41) (v := ?_) rfl rfl (by kernel_rfl) (by kernel_rfl) (by kernel_rfl) (fun _ _ _ h => h) (Or.inl ⟨by rfl, ?_⟩) hHeld ?_
              rotate_left 1
              focus (intro w hSw; (try dsimp only at hSw); go_simp; (try with_reducible rfl))
              (repeat (first | simp only [Act.put] | simp only [List.setIfInBounds_toArray] | simp only [List.set_cons_zero] | simp only [List.set_cons_succ]))
              refine takeD (i := 18) (d := some 42) (v := ?_) rfl rfl (by kernel_rfl) (by kernel_rfl) (by kernel_rfl) (fun _ _ _ h => h) (Or.inl ⟨by rfl, ?_⟩) hHeld ?_
              rotate_left 1
              focus (intro w hSw; (try dsimp only at hSw); go_simp; (try with_reducible rfl))
              (repeat (first | simp only [Act.put] | simp only [List.setIfInBounds_toArray] | simp only [List.set_cons_zero] | simp only [List.set_cons_succ]))
              refine takeD (i := 19) (d := some 43) (v := ?_) rfl rfl (by kernel_rfl) (by kernel_rfl) (by kernel_rfl) (fun _ _ _ h => h) (Or.inl ⟨by rfl, ?_⟩) hHeld ?_
              rotate_left 1
              focus (intro w hSw; (try dsimp only at hSw); go_simp; (try with_reducible rfl))
              (repeat (first | simp only [Act.put] | simp only [List.setIfInBounds_toArray] | simp only [List.set_cons_zero] | simp only [List.set_cons_succ]))
              refine takeD (i := 20) (d := some 44) (v := ?_) rfl rfl (by kernel_rfl) (by kernel_rfl) (by kernel_rfl) (fun _ _ _ h => h) (Or.inl ⟨by rfl, ?_⟩) hHeld ?_
              rotate_left 1
              focus (intro w hSw; (try dsimp only at hSw); go_simp; (try with_reducible rfl))
              (repeat (first | simp only [Act.put] | simp only [List.setIfInBounds_toArray] | simp only [List.set_cons_zero] | simp only [List.set_cons_succ]))
              refine takeD (i := 21) (d := some 45) (v := ?_) rfl rfl (by kernel_rfl) (by kernel_rfl) (by kernel_rfl) (fun _ _ _ h => h) (Or.inl ⟨by rfl, ?_⟩) hHeld ?_
              rotate_left 1
              focus (intro w hSw; (try dsimp only at hSw); go_simp; (try with_reducible rfl))
              (repeat (first | simp only [Act.put] | simp only [List.setIfInBounds_toArray] | simp only [List.set_cons_zero] | simp only [List.set_cons_succ]))
              refine takeD (i := 23) (d := some 47) (v := ?_) rfl rfl (by kernel_rfl) (by kernel_rfl) (by kernel_rfl) (fun _ _ _ h => h) (Or.inl ⟨by rfl, ?_⟩) hHeld ?_
              rotate_left 1
              focus (intro w hSw; (try dsimp only at hSw); go_simp; (try with_reducible rfl))
              (repeat (first | simp only [Act.put] | simp only [List.setIfInBounds_toArray] | simp only [List.set_cons_zero] | simp only [List.set_cons_succ]))
              refine takeD (i := 24) (d := some 48) (v := ?_) rfl rfl (by kernel_rfl) (by kernel_rfl) (by kernel_rfl) (fun _ _ _ h => h) (Or.inl ⟨by rfl, ?_⟩) hHeld ?_
              rotate_left 1
              focus (intro w hSw; (try dsimp only at hSw); go_simp; (try with_reducible rfl))
              (repeat (first | simp only [Act.put] | simp only [List.setIfInBounds_toArray] | simp only [List.set_cons_zero] | simp only [List.set_cons_succ]))
              refine takeD (i := 25) (d := some 49) (v := ?_) rfl rfl (by kernel_rfl) (by kernel_rfl) (by kernel_rfl) (fun _ _ _ h => h) (Or.inl ⟨by rfl, ?_⟩) hHeld ?_
              rotate_left 1
              focus (intro w hSw; (try dsimp only at hSw); go_simp; (try with_reducible rfl))
              (repeat (first | simp only [Act.put] | simp only [List.setIfInBounds_toArray] | simp only [List.set_cons_zero] | simp only [List.set_cons_succ]))
              refine takeD (i := 26) (d := some 50) (v := ?_) rfl rfl (by kernel_rfl) (by kernel_rfl) (by kernel_rfl) (fun _ _ _ h => h) (Or.inl ⟨by rfl, ?_⟩) hHeld ?_
              rotate_left 1
              focus (intro w hSw; (try dsimp only at hSw); go_simp; (try with_reducible rfl))
              (repeat (first | simp only [Act.put] | simp only [List.setIfInBounds_toArray] | simp only [List.set_cons_zero] | simp only [List.set_cons_succ]))
              refine takeD (i := 27) (d := some 51) (v := ?_) rfl rfl (by kernel_rfl) (by kernel_rfl) (by kernel_rfl) (fun _ _ _ h => h) (Or.inl ⟨by rfl, ?_⟩) hHeld ?_
              rotate_left 1
              focus (intro w hSw; (try dsimp only at hSw); go_simp; (try with_reducible rfl))
              (repeat (first | simp only [Act.put] | simp only [List.setIfInBounds_toArray] | simp only [List.set_cons_zero] | simp only [List.set_cons_succ]))
              refine wpAnyH_ready (rs := [22]) (by kernel_rfl) (by simp) ?_
              refine AllReadyH.cons rfl (fun K hK => ?_) AllReadyH.nil
              go_simp
              go_at_call 63
              refine (CX.out _ (by repeat (first | with_reducible exact Below.refl _ _ | with_reducible exact HB9.out | (with_reducible refine Below.drew ?_)))).mono ?_
              rintro e w10 ⟨rfl, rfl⟩
              refine hK.out _ _ (⟨(Below.cell (by repeat (first | with_reducible exact Below.refl _ _ | with_reducible exact HB9.out | (with_reducible refine Below.drew ?_))) (p := ⟨sb, so + 10, none⟩) hsbr).trans h10, (Below.cell (by repeat (first | with_reducible exact Below.refl _ _ | with_reducible exact HB9.out | (with_reducible refine Below.drew ?_))) (p := ⟨lb, lo + a, none⟩) hlbr).trans hla⟩) (fun hHeld => ?_)
              clear hK K
              (repeat (first | simp only [Act.put] | simp only [List.setIfInBounds_toArray] | simp only [List.set_cons_zero] | simp only [List.set_cons_succ]))
              refine wpAnyH_ready (rs := [28]) (by kernel_rfl) (by simp) ?_
              refine AllReadyH.cons rfl (fun K hK => ?_) AllReadyH.nil
              go_simp
              go_at_call 63
              refine (CY.out _ (by repeat (first | with_reducible exact Below.refl _ _ | with_reducible exact HB9.out | (with_reducible refine Below.drew ?_)))).mono ?_
              rintro e w10 ⟨rfl, rfl⟩
              refine hK.out _ _ (⟨(Below.cell (by repeat (first | with_reducible exact Below.refl _ _ | with_reducible exact HB9.out | (with_reducible refine Below.drew ?_))) (p := ⟨sb, so + 10, none⟩) hsbr).trans h10, (Below.cell (by repeat (first | with_reducible exact Below.refl _ _ | with_reducible exact HB9.out | (with_reducible refine Below.drew ?_))) (p := ⟨lb, lo + a, none⟩) hlbr).trans hla⟩) (fun hHeld => ?_)
              clear hK K
              (repeat (first | simp only [Act.put] | simp only [List.setIfInBounds_toArray] | simp only [List.set_cons_zero] | simp only [List.set_cons_succ]))
              by_cases hxy : x = y
              · skip
                have hxy1 : ((x : Int) != (y : Int)) = false := by rw [bne_eq_false_iff_eq]; omega
                have HFy := Lib.hid (show f = true by
                  have := hiX.out
                  rw [HF.out]; unfold fitS
                  rw [HGD.out, ← HKD.out, decide_eq_false (show ¬ kd % 2 = 1 from hoX.out), decide_eq_false (show ¬ a + i = a by omega), decide_eq_true (show genS s = g by rw [← HX.out, ← HY.out]; exact hxy)]; rfl)
                have hxyX := Lib.hid hxy
                clear hxy
                refine takeD (i := 29) (d := some 53) (v := ?_) rfl rfl (by kernel_rfl) (by kernel_rfl) (by kernel_rfl) (fun _ _ _ h => h) (Or.inl ⟨by rfl, ?_⟩) hHeld ?_
                rotate_left 1
                focus (intro w hSw; (try dsimp only at hSw); go_simp; (try with_reducible rfl))
                (repeat (first | simp only [Act.put] | simp only [List.setIfInBounds_toArray] | simp only [List.set_cons_zero] | simp only [List.set_cons_succ]))
                refine takeD (i := 30) (d := some 54) (v := ?_) rfl rfl (by kernel_rfl) (by kernel_rfl) (by kernel_rfl) (fun _ _ _ h => h) (Or.inl ⟨by rfl, ?_⟩) hHeld ?_
                rotate_left 1
                focus (intro w hSw; (try dsimp only at hSw); go_simp; (try with_reducible rfl))
                (repeat (first | simp only [Act.put] | simp only [List.setIfInBounds_toArray] | simp only [List.set_cons_zero] | simp only [List.set_cons_succ]))
                refine takeD (i := 31) (d := some 55) (v := ?_) rfl rfl (by kernel_rfl) (by kernel_rfl) (by kernel_rfl) (fun _ _ _ h => h) (Or.inl ⟨by rfl, ?_⟩) hHeld ?_
                rotate_left 1
                focus (intro w hSw; (try dsimp only at hSw); go_simp; (try with_reducible rfl))
                (repeat (first | simp only [Act.put] | simp only [List.setIfInBounds_toArray] | simp only [List.set_cons_zero] | simp only [List.set_cons_succ]))
                refine wpAnyH_done (by kernel_rfl) ?_ _
                have hz : f = true := HFy.out
                go_wp2_with fail
                go_meet
                case rel => exact ⟨rfl, by rw [hz]; rfl, Lib.hid (by repeat (first | with_reducible exact Below.refl _ _ | with_reducible exact HB9.out | (with_reducible refine Below.drew ?_)))⟩
              · skip
                have hxy1 : ((x : Int) != (y : Int)) = true := by rw [bne_iff_ne]; omega
                have HFn := Lib.hid (show f = false by
                  have := hiX.out
                  rw [HF.out]; unfold fitS
                  rw [HGD.out, ← HKD.out, decide_eq_false (show ¬ kd % 2 = 1 from hoX.out), decide_eq_false (show ¬ a + i = a by omega), decide_eq_false (show ¬ genS s = g by rw [← HX.out, ← HY.out]; exact hxy)]; rfl)
                have hxyX := Lib.hid hxy
                clear hxy
                refine takeD (i := 29) (d := some 53) (v := ?_) rfl rfl (by kernel_rfl) (by kernel_rfl) (by kernel_rfl) (fun _ _ _ h => h) (Or.inl ⟨by rfl, ?_⟩) hHeld ?_
                rotate_left 1
                focus (intro w hSw; (try dsimp only at hSw); go_simp; (try with_reducible rfl))
                (repeat (first | simp only [Act.put] | simp only [List.setIfInBounds_toArray] | simp only [List.set_cons_zero] | simp only [List.set_cons_succ]))
                refine takeD (i := 30) (d := some 54) (v := ?_) rfl rfl (by kernel_rfl) (by kernel_rfl) (by kernel_rfl) (fun _ _ _ h => h) (Or.inl ⟨by rfl, ?_⟩) hHeld ?_
                rotate_left 1
                focus (intro w hSw; (try dsimp only at hSw); go_simp; (try with_reducible rfl))
                (repeat (first | simp only [Act.put] | simp only [List.setIfInBounds_toArray] | simp only [List.set_cons_zero] | simp only [List.set_cons_succ]))
                refine takeD (i := 31) (d := some 55) (v := ?_) rfl rfl (by kernel_rfl) (by kernel_rfl) (by kernel_rfl) (fun _ _ _ h => h) (Or.inl ⟨by rfl, ?_⟩) hHeld ?_
                rotate_left 1
                focus (intro w hSw; (try dsimp only at hSw); go_simp; (try with_reducible rfl))
                (repeat (first | simp only [Act.put] | simp only [List.setIfInBounds_toArray] | simp only [List.set_cons_zero] | simp only [List.set_cons_succ]))
                refine wpAnyH_done (by kernel_rfl) ?_ _
                have hz : f = false := HFn.out
                go_wp2_with fail
                go_meet
                case rel => exact ⟨rfl, by rw [hz]; rfl, Lib.hid (by repeat (first | with_reducible exact Below.refl _ _ | with_reducible exact HB9.out | (with_reducible refine Below.drew ?_)))⟩
      case rest =>
        obtain ⟨rfl, rfl, HBc⟩ := hcut
        have hB2 := HB.out.trans (HBc.out.mono HSz.out)
        have HB2 := Lib.hid hB2
        have HO2 := Lib.hid (HO.out.below HBc.out)
        have h10' := (HBc.out.cell (p := ⟨sb, so + 10, none⟩) hsbr).trans h10
        have h11' := (HBc.out.cell (p := ⟨sb, so + 11, none⟩) hsbr).trans h11
        have HSz2 := Lib.hid (Nat.le_trans HSz.out HBc.out.size)
        clear hB2 hcs' hla CG CX CY h10 h11
        cases f with
        | false =>
          have HN2 := Lib.hid (show recAt l a = none by
            rw [HRC.out, drop_get hlt, recGo_bad (by rw [← HSE.out]; exact HF.out.symm)]; rfl)
          go_wp2_with fail
          go_ret2
          exact ⟨⟨_, _, rfl, .inl ⟨HN2.out, rfl⟩⟩, by rw [← HBS.out]; exact HB2.out⟩
        | true =>
          have hfit : fitS a g (a + i) s = true := HF.out.symm
          have HFT := Lib.hid hfit
          have hgood : goodB s (a + i) = true := by
            unfold fitS at hfit
            simp only [Bool.and_eq_true] at hfit
            exact hfit.1.1
          have hfm := (good_form hgood).1
          have hn116 : n ≤ 116 := by
            unfold formB at hfm
            simp only [Bool.and_eq_true, decide_eq_true_eq] at hfm
            rw [HN.out]; exact hfm.1.1.2
          clear hfit hgood hfm
          have hw12 : IntKind.i64.wrap (12 + (n : Int)) = 12 + (n : Int) := IntWalk.i64_in _ (by omega)
          have hcn : ¬ (sc : Int) < 12 + (n : Int) := by omega
          have hn0 : ¬ (12 + (n : Int)) < 12 := by omega
          have hc12 : ¬ sc = 12 := by omega
          have hdl : (dataS s).length = n := by rw [dataS_length H128.out (by rw [← HN.out]; exact hn116)]; exact HN.out.symm
          have hds : BytesC wc M (some ⟨sb, so + 12, none⟩) (dataS s) := by
            have := (HSB.out.part 12 n (by rw [H128.out]; omega)).below HBc.out
            unfold dataS
            rw [← HN.out]
            exact this
          have HDS := Lib.hid hds
          have HDL := Lib.hid hdl
          clear hdl hds
          go_wp2_with (at_builtin; refine wpList_appB rfl (.tmp 56) (.tmp 63) rfl base base u6 acc rfl HO2.out (some ⟨sb, so + 12, none⟩) n (sc - 12) (dataS s) (by first | rfl | (show Value.slice _ _ _ = Value.slice _ _ _; congr 1; omega)) HDL.out.symm HDS.out (by rw [HDL.out]; omega) HSz2.out (Nat.le_refl _) HB2.out ?_)
          intro v3 w3 HO3 HB3 HS3
          have h10'' := (HB3.out.cell (p := ⟨sb, so + 10, none⟩) hsb).trans H10W.out
          clear h10' h11'
          by_cases hk2 : 2 ≤ kd
          · have HR3 := Lib.hid (show recAt l a = some (acc ++ dataS s, a + (i + 1)) by
              rw [HRC.out, drop_get hlt, ← HSE.out, recGo_one HFT.out, ← HKD.out, if_pos hk2]; rfl)
            have hk3 : (2 : Int) ≤ (kd : Int) := by omega
            clear hk2
            go_wp2_with fail
            go_ret2
            exact ⟨⟨_, _, rfl, .inr ⟨_, i + 1, HR3.out, by omega, Nat.succ_pos _, by rw [← HBS.out]; exact HO3.out.isBytes⟩⟩, by rw [← HBS.out]; exact HB3.out⟩
          · have HR3 := Lib.hid (show recAt l a = (recGo a g (a + (i + 1)) (l.drop (a + (i + 1)))).map fun x => (acc ++ dataS s ++ x.1, x.2) by
              rw [HRC.out, drop_get hlt, ← HSE.out, recGo_one HFT.out, ← HKD.out, if_neg hk2, Option.map_map]
              congr 1
              funext x
              show (acc ++ (dataS s ++ x.1), x.2) = _
              rw [List.append_assoc])
            have hk3 : ¬ (2 : Int) ≤ (kd : Int) := by omega
            clear hk2
            go_wp2_with fail
            go_roundw
            case rel => exact ⟨i + 1, acc ++ dataS s, by omega, rfl, by rw [List.length_append, HDL.out]; omega, HO3, HB3, HS3, HR3⟩
            case measure => simp [intOf]; omega
    · have HN2 := Lib.hid (show recAt l a = none by rw [HRC.out, List.drop_of_length_le (by omega)]; rfl)
      have hk1 : ¬ (a : Int) + (i : Int) < (l.length : Int) := by omega
      have hk2 : ((a : Int) + (i : Int) < (l.length : Int)) = False := eq_false hk1
      have hk3 : decide ((a : Int) + (i : Int) < (l.length : Int)) = false := decide_eq_false hk1
      go_wp2_with fail
      go_ret2
      exact ⟨⟨_, _, rfl, .inl ⟨HN2.out, rfl⟩⟩, by rw [← HBS.out]; exact HB.out⟩
end Go.Proofs.Ytocjhepiooljpaa
