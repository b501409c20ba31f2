/- good of the reference. -/
import Derived.Test.YtocjhepiooljpaaB1
namespace Go.Proofs.Ytocjhepiooljpaa
open Go.RowKit Go.Deep Go.Shelf

section
variable {P : Program} {ops : Array Oper} {Q : Exit → Act → World → Prop} {md : Region.Mode} {S : World → Prop}
theorem takeD {i : Nat} {oi : Oper} {d : Option Tmp} {v : Value} {fuel : Nat} {listed : Array Bool} {a : Act} {w : World} (hi : ops[i]? = some oi) (hd : oi.dst = d)
    (hs : Region.noSelect ops = true) (hf : Region.free md ops listed i = true) (hr : (Region.ready md ops listed).contains i = true)
    (hQ : ∀ c a w, Q (.panic c) (a.put d v) w → Q (.panic c) a w) (hy : YieldsIf P ops S oi v a) (hS : S w)
    (h : wpAnyH P md ops Q S fuel (listed.setIfInBounds i true) (a.put d v) w) : wpAnyH P md ops Q S (fuel + 1) listed a w :=
  wpAnyH_take hi hs hf hr (by rw [hd]; exact hQ) hy hS (by rw [hd]; exact h)
end
theorem cutp {G R : Prop} (main : G → R) (rest : G) : R := main rest
set_option maxRecDepth 20000 in
set_option maxHeartbeats 4000000 in
theorem refGood_any (w : World) (M : Nat → Prop) (A : Option Addr) (c : Nat) (s : List UInt8) (k : Nat) (hs : s.length = 128) (hc : 128 ≤ c) (hcm : c ≤ 9223372036854775807) (hk : k < 65536) (h : BytesC w M A s) :
    Calls Try.prog 72 #[.slice A 128 c, .int .i64 (k : Int)] w fun e w' => e = .returned (.bool (goodB s k)) ∧ Below w.heap.size w w' := by
  obtain ⟨b, off, rfl, hM, hbl, h10⟩ := h.at_ (Below.refl _ _) (by omega : 10 < s.length)
  obtain ⟨b2, off2, e2, -, -, h11⟩ := h.at_ (Below.refl _ _) (by omega : 11 < s.length)
  obtain ⟨rfl, rfl⟩ : b = b2 ∧ off = off2 := by injection e2 with e2; injection e2 with a b; exact ⟨a, b⟩
  have HS := Lib.hid h
  obtain ⟨kd, hkd⟩ : ∃ kd, kd = kindS s := ⟨_, rfl⟩
  obtain ⟨n, hn⟩ : ∃ n, n = lenS s := ⟨_, rfl⟩
  have e10 : (s[10]).toNat = kd := by rw [hkd]; unfold kindS; rw [List.getD_eq_getElem?_getD, List.getElem?_eq_getElem (by omega), Option.getD_some]
  have e11 : (s[11]).toNat = n := by rw [hn]; unfold lenS; rw [List.getD_eq_getElem?_getD, List.getElem?_eq_getElem (by omega), Option.getD_some]
  rw [e10] at h10
  rw [e11] at h11
  have hkl : kd < 256 := by rw [← e10]; exact byte_lt _
  have hnl : n < 256 := by rw [← e11]; exact byte_lt _
  obtain ⟨g, hg⟩ : ∃ g, g = genS s := ⟨_, rfl⟩
  obtain ⟨q, hq⟩ : ∃ q, q = num ((s.drop 4).take 4) := ⟨_, rfl⟩
  obtain ⟨p, hp⟩ : ∃ p, p = num ((s.drop 8).take 2) := ⟨_, rfl⟩
  obtain ⟨r, hr⟩ : ∃ r, r = crc (s.take 4 ++ s.drop 8) := ⟨_, rfl⟩
  have hG : Hid (goodB s k = (decide (g ≠ 0) && decide (q = r) && decide (p = k) && decide (kd ≤ 3) && decide (n ≤ 116) && (decide (2 ≤ kd) || decide (n = 116)) && (decide (kd % 2 = 1) || decide (n ≠ 0)) && (s.drop (12 + n)).all (fun c => c == 0))) := Lib.hid (by
    unfold goodB; rw [hg, hq, hp, hr, hkd, hn])
  have hql : q < 4294967296 := by rw [hq]; exact num_take_lt (s.drop 4) 4
  have hpl : p < 65536 := by rw [hp]; exact num_take_lt (s.drop 8) 2
  have C0 := Lib.hid fun (W : World) (hB : Below w.heap.size w W) => number_any W M (some ⟨b, off, none⟩) c (s.take 4) (by rw [List.length_take]; omega) ((h.part 0 4 (by omega)).below hB)
  have C4 := Lib.hid fun (W : World) (hB : Below w.heap.size w W) => number_any W M (some ⟨b, off + 4, none⟩) (c - 4) ((s.drop 4).take 4) (by rw [List.length_take]; omega) ((h.part 4 4 (by omega)).below hB)
  have C8 := Lib.hid fun (W : World) (hB : Below w.heap.size w W) => number_any W M (some ⟨b, off + 8, none⟩) (c - 8) ((s.drop 8).take 2) (by rw [List.length_take]; omega) ((h.part 8 2 (by omega)).below hB)
  have l4 : (s.take 4).length = 4 := by rw [List.length_take]; omega
  have l44 : ((s.drop 4).take 4).length = 4 := by rw [List.length_take, List.length_drop]; omega
  have l82 : ((s.drop 8).take 2).length = 2 := by rw [List.length_take, List.length_drop]; omega
  have l8 : (s.drop 8).length = 120 := by rw [List.length_drop]; omega
  have P4 := Lib.hid fun (W : World) (hB : Below w.heap.size w W) => (h.part 0 4 (by omega)).below hB
  have P8 := Lib.hid fun (W : World) (hB : Below w.heap.size w W) => (h.part 8 120 (by omega)).below hB
  rw [l4, show num (s.take 4) = g from hg.symm] at C0
  rw [l44, ← hq] at C4
  rw [l82, ← hp] at C8
  rw [List.drop_zero] at P4
  rw [List.take_of_length_le (Nat.le_of_eq l8)] at P8
  have L4 := Lib.hid l4
  have L8 := Lib.hid l8
  have hqw : IntKind.u32.wrap (q : Int) = (q : Int) := by rw [IntKind.wrap_u32']; omega
  have hkw : IntKind.u64.wrap (k : Int) = (k : Int) := by rw [IntKind.wrap_u64]; omega
  have hc4 : ¬ (c : Int) < 4 := by omega
  have hc8 : ¬ (c : Int) < 8 := by omega
  have hc10 : ¬ (c : Int) < 10 := by omega
  have hi4 : (4 : Int) ≤ (c : Int) := by omega
  have hi8 : (8 : Int) ≤ (c : Int) := by omega
  have hi10 : (10 : Int) ≤ (c : Int) := by omega
  have hn4 : 4 ≤ c := by omega
  have hn8 : 8 ≤ c := by omega
  have hn10 : 10 ≤ c := by omega
  have hm4 : ¬ c < 4 := by omega
  have hm8 : ¬ c < 8 := by omega
  have hm10 : ¬ c < 10 := by omega
  have hc0 : ¬ c = 0 := by omega
  have hc40 : ¬ c = 4 := by omega
  have hc80 : ¬ c = 8 := by omega
  have HR := Lib.hid hr
  clear e10 e11 hn hkd e2 hg hq hp hr l4 l44 l82 l8
  go_enter Try.func72, Try.ntmps72
  go_upto_region 2 with fail
  have hd : ∃ d, d = (decide (g ≠ 0) && decide (q = r) && decide (p = k) && decide (kd ≤ 3) && decide (n ≤ 116) && (decide (2 ≤ kd) || decide (n = 116)) && (decide (kd % 2 = 1) || decide (n ≠ 0))) := ⟨_, rfl⟩
  obtain ⟨d, hd⟩ := hd
  rw [← hd] at hG
  have HD := Lib.hid hd
  clear hd
  go_cut [5, 68] (fun a v W => a = .int .i64 (n : Int) ∧ v = .bool (!d) ∧ Hid (Below w.heap.size w W))
  case first =>
    by_cases hg0 : g = 0
    · have hdf := Lib.hid (show d = false by rw [HD.out, hg0]; rfl)
      subst hg0
      go_quiet ((go_at_call 63; exact Calls.quiet_of_same (C0.out _ (below_drewN (Below.refl _ _) _))))
      go_wp2_with fail
      go_meet
      case rel => exact ⟨rfl, by rw [hdf.out]; rfl, Lib.hid (below_drewN (Below.refl _ _) _)⟩
    · have hg1 : ((g : Int) == 0) = false := by rw [beq_eq_false_iff_ne]; omega
      refine wp_region_held_drew (S := fun w' => w'.cell? ⟨b, off + 10, none⟩ = some (.int .u8 (kd : Int))) (by kernel_rfl) h10 (fun hHeld => ?_)
      change wpAnyH _ _ _ _ _ 58 #[false, false, false, false, false, false, false, false, false, false, false, false, false, false, false, false, false, false, false, false, false, false, false, false, false, false, false, false, false, false, false, false, false, false, false, false, false, false, false, false, false, false, false, false, false, false, false, false, false, false, false, false, false, false, false, false, false, false] _ w.drew
      refine takeD (i := 0) (d := some 11) (v := ?_) rfl rfl (by kernel_rfl) (by kernel_rfl) (by kernel_rfl) (fun _ _ _ h => h) (Or.inl ⟨by rfl, ?_⟩) hHeld ?_
      rotate_left 1
      focus (intro w hSw; (try dsimp only at hSw); go_simp; (try with_reducible rfl))
      (repeat (first | simp only [Act.put] | simp only [List.setIfInBounds_toArray] | simp only [List.set_cons_zero] | simp only [List.set_cons_succ]))
      refine takeD (i := 1) (d := some 12) (v := ?_) rfl rfl (by kernel_rfl) (by kernel_rfl) (by kernel_rfl) (fun _ _ _ h => h) (Or.inl ⟨by rfl, ?_⟩) hHeld ?_
      rotate_left 1
      focus (intro w hSw; (try dsimp only at hSw); go_simp; (try with_reducible rfl))
      (repeat (first | simp only [Act.put] | simp only [List.setIfInBounds_toArray] | simp only [List.set_cons_zero] | simp only [List.set_cons_succ]))
      refine wpAnyH_ready (rs := [2]) (by kernel_rfl) (by simp) ?_
      refine AllReadyH.cons rfl (fun K hK => ?_) AllReadyH.nil
      go_simp
      go_at_call 63
      refine (C0.out _ (by repeat (first | with_reducible exact Below.refl _ _ | with_reducible exact HB9.out | (with_reducible refine Below.alloc ?_ (by simp) _) | (with_reducible refine Below.drew ?_)))).mono ?_
      rintro e w9 ⟨rfl, rfl⟩
      refine hK.out _ _ ((Below.cell (by repeat (first | with_reducible exact Below.refl _ _ | with_reducible exact HB9.out | (with_reducible refine Below.alloc ?_ (by simp) _) | (with_reducible refine Below.drew ?_))) (p := ⟨b, off + 10, none⟩) hbl).trans h10) (fun hHeld => ?_)
      clear hK K
      (repeat (first | simp only [Act.put] | simp only [List.setIfInBounds_toArray] | simp only [List.set_cons_zero] | simp only [List.set_cons_succ]))
      refine takeD (i := 3) (d := some 14) (v := ?_) rfl rfl (by kernel_rfl) (by kernel_rfl) (by kernel_rfl) (fun _ _ _ h => h) (Or.inl ⟨by rfl, ?_⟩) hHeld ?_
      rotate_left 1
      focus (intro w hSw; (try dsimp only at hSw); go_simp; (try with_reducible rfl))
      (repeat (first | simp only [Act.put] | simp only [List.setIfInBounds_toArray] | simp only [List.set_cons_zero] | simp only [List.set_cons_succ]))
      refine takeD (i := 4) (d := some 15) (v := ?_) rfl rfl (by kernel_rfl) (by kernel_rfl) (by kernel_rfl) (fun _ _ _ h => h) (Or.inl ⟨by rfl, ?_⟩) hHeld ?_
      rotate_left 1
      focus (intro w hSw; (try dsimp only at hSw); go_simp; (try with_reducible rfl))
      (repeat (first | simp only [Act.put] | simp only [List.setIfInBounds_toArray] | simp only [List.set_cons_zero] | simp only [List.set_cons_succ]))
      refine takeD (i := 5) (d := some 16) (v := ?_) rfl rfl (by kernel_rfl) (by kernel_rfl) (by kernel_rfl) (fun _ _ _ h => h) (Or.inl ⟨by rfl, ?_⟩) hHeld ?_
      rotate_left 1
      focus (intro w hSw; (try dsimp only at hSw); go_simp; (try with_reducible rfl))
      (repeat (first | simp only [Act.put] | simp only [List.setIfInBounds_toArray] | simp only [List.set_cons_zero] | simp only [List.set_cons_succ]))
      refine takeD (i := 6) (d := some 17) (v := ?_) rfl rfl (by kernel_rfl) (by kernel_rfl) (by kernel_rfl) (fun _ _ _ h => h) (Or.inl ⟨by rfl, ?_⟩) hHeld ?_
      rotate_left 1
      focus (intro w hSw; (try dsimp only at hSw); go_simp; (try with_reducible rfl))
      (repeat (first | simp only [Act.put] | simp only [List.setIfInBounds_toArray] | simp only [List.set_cons_zero] | simp only [List.set_cons_succ]))
      refine takeD (i := 10) (d := some 21) (v := ?_) rfl rfl (by kernel_rfl) (by kernel_rfl) (by kernel_rfl) (fun _ _ _ h => h) (Or.inl ⟨by rfl, ?_⟩) hHeld ?_
      rotate_left 1
      focus (intro w hSw; (try dsimp only at hSw); go_simp; (try with_reducible rfl))
      (repeat (first | simp only [Act.put] | simp only [List.setIfInBounds_toArray] | simp only [List.set_cons_zero] | simp only [List.set_cons_succ]))
      refine takeD (i := 11) (d := some 22) (v := ?_) rfl rfl (by kernel_rfl) (by kernel_rfl) (by kernel_rfl) (fun _ _ _ h => h) (Or.inl ⟨by rfl, ?_⟩) hHeld ?_
      rotate_left 1
      focus (intro w hSw; (try dsimp only at hSw); go_simp; (try with_reducible rfl))
      (repeat (first | simp only [Act.put] | simp only [List.setIfInBounds_toArray] | simp only [List.set_cons_zero] | simp only [List.set_cons_succ]))
      refine takeD (i := 13) (d := some 24) (v := ?_) rfl rfl (by kernel_rfl) (by kernel_rfl) (by kernel_rfl) (fun _ _ _ h => h) (Or.inl ⟨by rfl, ?_⟩) hHeld ?_
      rotate_left 1
      focus (intro w hSw; (try dsimp only at hSw); go_simp; (try with_reducible rfl))
      (repeat (first | simp only [Act.put] | simp only [List.setIfInBounds_toArray] | simp only [List.set_cons_zero] | simp only [List.set_cons_succ]))
      refine takeD (i := 14) (d := some 25) (v := ?_) rfl rfl (by kernel_rfl) (by kernel_rfl) (by kernel_rfl) (fun _ _ _ h => h) (Or.inl ⟨by rfl, ?_⟩) hHeld ?_
      rotate_left 1
      focus (intro w hSw; (try dsimp only at hSw); go_simp; (try with_reducible rfl))
      (repeat (first | simp only [Act.put] | simp only [List.setIfInBounds_toArray] | simp only [List.set_cons_zero] | simp only [List.set_cons_succ]))
      apply cutp
      case main =>
        intro H
        refine wpAnyH_ready (rs := [7, 9]) (by kernel_rfl) (by simp) ?_
        refine AllReadyH.cons rfl (fun K hK => ?_) (AllReadyH.cons rfl (fun K hK => ?_) AllReadyH.nil)
        · skip
          go_simp
          go_at_call 63
          refine (C4.out _ (by repeat (first | with_reducible exact Below.refl _ _ | with_reducible exact HB9.out | (with_reducible refine Below.alloc ?_ (by simp) _) | (with_reducible refine Below.drew ?_)))).mono ?_
          rintro e w9 ⟨rfl, rfl⟩
          refine hK.out _ _ ((Below.cell (by repeat (first | with_reducible exact Below.refl _ _ | with_reducible exact HB9.out | (with_reducible refine Below.alloc ?_ (by simp) _) | (with_reducible refine Below.drew ?_))) (p := ⟨b, off + 10, none⟩) hbl).trans h10) (fun hHeld => ?_)
          clear hK K
          (repeat (first | simp only [Act.put] | simp only [List.setIfInBounds_toArray] | simp only [List.set_cons_zero] | simp only [List.set_cons_succ]))
          refine takeD (i := 8) (d := some 19) (v := ?_) rfl rfl (by kernel_rfl) (by kernel_rfl) (by kernel_rfl) (fun _ _ _ h => h) (Or.inl ⟨by rfl, ?_⟩) hHeld ?_
          rotate_left 1
          focus (intro w hSw; (try dsimp only at hSw); go_simp; (try with_reducible rfl))
          (repeat (first | simp only [Act.put] | simp only [List.setIfInBounds_toArray] | simp only [List.set_cons_zero] | simp only [List.set_cons_succ]))
          refine wpAnyH_ready (rs := [9]) (by kernel_rfl) (by simp) ?_
          refine AllReadyH.cons rfl (fun K hK => ?_) AllReadyH.nil
          go_simp
          refine hK.out _ _ ((Below.cell (by repeat (first | with_reducible exact Below.refl _ _ | with_reducible exact HB9.out | (with_reducible refine Below.alloc ?_ (by simp) _) | (with_reducible refine Below.drew ?_))) (p := ⟨b, off + 10, none⟩) hbl).trans h10) (fun hHeld => ?_)
          clear hK K
          (repeat (first | simp only [Act.put] | simp only [List.setIfInBounds_toArray] | simp only [List.set_cons_zero] | simp only [List.set_cons_succ]))
          exact H
        · skip
          go_simp
          refine hK.out _ _ ((Below.cell (by repeat (first | with_reducible exact Below.refl _ _ | with_reducible exact HB9.out | (with_reducible refine Below.alloc ?_ (by simp) _) | (with_reducible refine Below.drew ?_))) (p := ⟨b, off + 10, none⟩) hbl).trans h10) (fun hHeld => ?_)
          clear hK K
          (repeat (first | simp only [Act.put] | simp only [List.setIfInBounds_toArray] | simp only [List.set_cons_zero] | simp only [List.set_cons_succ]))
          refine wpAnyH_ready (rs := [7]) (by kernel_rfl) (by simp) ?_
          refine AllReadyH.cons rfl (fun K hK => ?_) AllReadyH.nil
          go_simp
          go_at_call 63
          refine (C4.out _ (by repeat (first | with_reducible exact Below.refl _ _ | with_reducible exact HB9.out | (with_reducible refine Below.alloc ?_ (by simp) _) | (with_reducible refine Below.drew ?_)))).mono ?_
          rintro e w9 ⟨rfl, rfl⟩
          refine hK.out _ _ ((Below.cell (by repeat (first | with_reducible exact Below.refl _ _ | with_reducible exact HB9.out | (with_reducible refine Below.alloc ?_ (by simp) _) | (with_reducible refine Below.drew ?_))) (p := ⟨b, off + 10, none⟩) hbl).trans h10) (fun hHeld => ?_)
          clear hK K
          (repeat (first | simp only [Act.put] | simp only [List.setIfInBounds_toArray] | simp only [List.set_cons_zero] | simp only [List.set_cons_succ]))
          refine takeD (i := 8) (d := some 19) (v := ?_) rfl rfl (by kernel_rfl) (by kernel_rfl) (by kernel_rfl) (fun _ _ _ h => h) (Or.inl ⟨by rfl, ?_⟩) hHeld ?_
          rotate_left 1
          focus (intro w hSw; (try dsimp only at hSw); go_simp; (try with_reducible rfl))
          (repeat (first | simp only [Act.put] | simp only [List.setIfInBounds_toArray] | simp only [List.set_cons_zero] | simp only [List.set_cons_succ]))
          exact H
      case rest =>
        have hHeld := (Below.cell (show Below w.heap.size w (w.alloc (.cells #[] 5)).drew from Below.drew ((Below.refl _ _).alloc (Nat.le_refl _) _)) (p := ⟨b, off + 10, none⟩) hbl).trans h10
        refine wpAnyH_ready (rs := [12]) (by kernel_rfl) (by simp) ?_
        refine AllReadyH.cons rfl (fun K hK => ?_) AllReadyH.nil
        refine step_appB (W0 := w) (by rfl) (.tmp 20) (.tmp 22) rfl w.heap.size w.heap.size (.slice (some ⟨w.heap.size, 0, none⟩) 0 0) [] rfl (OwnB.empty (heap_alloc_new w _) (Nat.le_refl _)) (some ⟨b, off, none⟩) 4 c (s.take 4) rfl L4.out.symm (P4.out _ (by repeat (first | with_reducible exact Below.refl _ _ | with_reducible exact HB9.out | (with_reducible refine Below.alloc ?_ (by simp) _) | (with_reducible refine Below.drew ?_)))) (by simp; omega) (by first | exact Nat.le_refl _ | exact HS9.out | (simp; done) | (simp; omega)) (Nat.le_refl _) (by repeat (first | with_reducible exact Below.refl _ _ | with_reducible exact HB9.out | (with_reducible refine Below.alloc ?_ (by simp) _) | (with_reducible refine Below.drew ?_))) ?_
        intro v1 w9 HO9 HB9 HS9
        refine hK.out _ _ ((Below.cell (by repeat (first | with_reducible exact Below.refl _ _ | with_reducible exact HB9.out | (with_reducible refine Below.alloc ?_ (by simp) _) | (with_reducible refine Below.drew ?_))) (p := ⟨b, off + 10, none⟩) hbl).trans h10) (fun hHeld => ?_)
        clear hK K
        (repeat (first | simp only [Act.put] | simp only [List.setIfInBounds_toArray] | simp only [List.set_cons_zero] | simp only [List.set_cons_succ]))
        refine wpAnyH_ready (rs := [15]) (by kernel_rfl) (by simp) ?_
        refine AllReadyH.cons rfl (fun K hK => ?_) AllReadyH.nil
        refine step_appB (W0 := w) (by rfl) (.tmp 23) (.tmp 25) rfl w.heap.size w.heap.size v1 ([] ++ s.take 4) rfl HO9.out (some ⟨b, off + 8, none⟩) 120 (c - 8) (s.drop 8) rfl L8.out.symm (P8.out _ (by repeat (first | with_reducible exact Below.refl _ _ | with_reducible exact HB9.out | (with_reducible refine Below.alloc ?_ (by simp) _) | (with_reducible refine Below.drew ?_)))) (by simp; omega) (by first | exact Nat.le_refl _ | exact HS9.out | (simp; done) | (simp; omega)) (Nat.le_refl _) (by repeat (first | with_reducible exact Below.refl _ _ | with_reducible exact HB9.out | (with_reducible refine Below.alloc ?_ (by simp) _) | (with_reducible refine Below.drew ?_))) ?_
        intro v2 w9 HO9 HB9 HS9
        have hLr : crc ([] ++ s.take 4 ++ s.drop 8) = r := HR.out.symm
        have hLl : ([] ++ s.take 4 ++ s.drop 8).length ≤ 128 := by simp; omega
        obtain ⟨L, hL⟩ : ∃ L, L = [] ++ s.take 4 ++ s.drop 8 := ⟨_, rfl⟩
        rw [← hL] at HO9 hLr hLl
        obtain ⟨A2, c2, hv2, -, -, hb2⟩ := HO9.out.bytes
        subst hv2
        have HC16 := Lib.hid (checksum_any w9 _ A2 c2 L (by omega) hb2)
        rw [hLr] at HC16
        clear hb2 hL hLr hLl
        refine hK.out _ _ ((Below.cell (by repeat (first | with_reducible exact Below.refl _ _ | with_reducible exact HB9.out | (with_reducible refine Below.alloc ?_ (by simp) _) | (with_reducible refine Below.drew ?_))) (p := ⟨b, off + 10, none⟩) hbl).trans h10) (fun hHeld => ?_)
        clear hK K
        (repeat (first | simp only [Act.put] | simp only [List.setIfInBounds_toArray] | simp only [List.set_cons_zero] | simp only [List.set_cons_succ]))
        refine wpAnyH_ready (rs := [16]) (by kernel_rfl) (by simp) ?_
        refine AllReadyH.cons rfl (fun K hK => ?_) AllReadyH.nil
        go_simp
        go_at_call 67
        refine HC16.out.mono ?_
        rintro e w10 ⟨rfl, rfl⟩
        refine hK.out _ _ ((Below.cell (by repeat (first | with_reducible exact Below.refl _ _ | with_reducible exact HB9.out | (with_reducible refine Below.alloc ?_ (by simp) _) | (with_reducible refine Below.drew ?_))) (p := ⟨b, off + 10, none⟩) hbl).trans h10) (fun hHeld => ?_)
        clear hK K
        (repeat (first | simp only [Act.put] | simp only [List.setIfInBounds_toArray] | simp only [List.set_cons_zero] | simp only [List.set_cons_succ]))
        by_cases hqr : q = r
        · skip
          have hqr1 : ((q : Int) != (r : Int)) = false := by rw [bne_eq_false_iff_eq]; omega
          have hqrX := Lib.hid hqr
          clear hqr
          refine takeD (i := 17) (d := some 28) (v := ?_) rfl rfl (by kernel_rfl) (by kernel_rfl) (by kernel_rfl) (fun _ _ _ h => h) (Or.inl ⟨by rfl, ?_⟩) hHeld ?_
          rotate_left 1
          focus (intro w hSw; (try dsimp only at hSw); go_simp; (try with_reducible rfl))
          (repeat (first | simp only [Act.put] | simp only [List.setIfInBounds_toArray] | simp only [List.set_cons_zero] | simp only [List.set_cons_succ]))
          refine takeD (i := 18) (d := some 29) (v := ?_) rfl rfl (by kernel_rfl) (by kernel_rfl) (by kernel_rfl) (fun _ _ _ h => h) (Or.inl ⟨by rfl, ?_⟩) hHeld ?_
          rotate_left 1
          focus (intro w hSw; (try dsimp only at hSw); go_simp; (try with_reducible rfl))
          (repeat (first | simp only [Act.put] | simp only [List.setIfInBounds_toArray] | simp only [List.set_cons_zero] | simp only [List.set_cons_succ]))
          refine takeD (i := 19) (d := some 30) (v := ?_) rfl rfl (by kernel_rfl) (by kernel_rfl) (by kernel_rfl) (fun _ _ _ h => h) (Or.inl ⟨by rfl, ?_⟩) hHeld ?_
          rotate_left 1
          focus (intro w hSw; (try dsimp only at hSw); go_simp; (try with_reducible rfl))
          (repeat (first | simp only [Act.put] | simp only [List.setIfInBounds_toArray] | simp only [List.set_cons_zero] | simp only [List.set_cons_succ]))
          refine takeD (i := 20) (d := some 31) (v := ?_) rfl rfl (by kernel_rfl) (by kernel_rfl) (by kernel_rfl) (fun _ _ _ h => h) (Or.inl ⟨by rfl, ?_⟩) hHeld ?_
          rotate_left 1
          focus (intro w hSw; (try dsimp only at hSw); go_simp; (try with_reducible rfl))
          (repeat (first | simp only [Act.put] | simp only [List.setIfInBounds_toArray] | simp only [List.set_cons_zero] | simp only [List.set_cons_succ]))
          refine takeD (i := 21) (d := some 32) (v := ?_) rfl rfl (by kernel_rfl) (by kernel_rfl) (by kernel_rfl) (fun _ _ _ h => h) (Or.inl ⟨by rfl, ?_⟩) hHeld ?_
          rotate_left 1
          focus (intro w hSw; (try dsimp only at hSw); go_simp; (try with_reducible rfl))
          (repeat (first | simp only [Act.put] | simp only [List.setIfInBounds_toArray] | simp only [List.set_cons_zero] | simp only [List.set_cons_succ]))
          refine takeD (i := 23) (d := some 34) (v := ?_) rfl rfl (by kernel_rfl) (by kernel_rfl) (by kernel_rfl) (fun _ _ _ h => h) (Or.inl ⟨by rfl, ?_⟩) hHeld ?_
          rotate_left 1
          focus (intro w hSw; (try dsimp only at hSw); go_simp; (try with_reducible rfl))
          (repeat (first | simp only [Act.put] | simp only [List.setIfInBounds_toArray] | simp only [List.set_cons_zero] | simp only [List.set_cons_succ]))
          refine takeD (i := 24) (d := some 35) (v := ?_) rfl rfl (by kernel_rfl) (by kernel_rfl) (by kernel_rfl) (fun _ _ _ h => h) (Or.inl ⟨by rfl, ?_⟩) hHeld ?_
          rotate_left 1
          focus (intro w hSw; (try dsimp only at hSw); go_simp; (try with_reducible rfl))
          (repeat (first | simp only [Act.put] | simp only [List.setIfInBounds_toArray] | simp only [List.set_cons_zero] | simp only [List.set_cons_succ]))
          refine wpAnyH_ready (rs := [22]) (by kernel_rfl) (by simp) ?_
          refine AllReadyH.cons rfl (fun K hK => ?_) AllReadyH.nil
          go_simp
          go_at_call 63
          refine (C8.out _ (by repeat (first | with_reducible exact Below.refl _ _ | with_reducible exact HB9.out | (with_reducible refine Below.alloc ?_ (by simp) _) | (with_reducible refine Below.drew ?_)))).mono ?_
          rintro e w9 ⟨rfl, rfl⟩
          refine hK.out _ _ ((Below.cell (by repeat (first | with_reducible exact Below.refl _ _ | with_reducible exact HB9.out | (with_reducible refine Below.alloc ?_ (by simp) _) | (with_reducible refine Below.drew ?_))) (p := ⟨b, off + 10, none⟩) hbl).trans h10) (fun hHeld => ?_)
          clear hK K
          (repeat (first | simp only [Act.put] | simp only [List.setIfInBounds_toArray] | simp only [List.set_cons_zero] | simp only [List.set_cons_succ]))
          by_cases hpk : p = k
          · skip
            have hpk1 : ((p : Int) != (k : Int)) = false := by rw [bne_eq_false_iff_eq]; omega
            have hpkX := Lib.hid hpk
            clear hpk
            refine takeD (i := 25) (d := some 36) (v := ?_) rfl rfl (by kernel_rfl) (by kernel_rfl) (by kernel_rfl) (fun _ _ _ h => h) (Or.inl ⟨by rfl, ?_⟩) hHeld ?_
            rotate_left 1
            focus (intro w hSw; (try dsimp only at hSw); go_simp; (try with_reducible rfl))
            (repeat (first | simp only [Act.put] | simp only [List.setIfInBounds_toArray] | simp only [List.set_cons_zero] | simp only [List.set_cons_succ]))
            refine takeD (i := 26) (d := some 37) (v := ?_) rfl rfl (by kernel_rfl) (by kernel_rfl) (by kernel_rfl) (fun _ _ _ h => h) (Or.inl ⟨by rfl, ?_⟩) hHeld ?_
            rotate_left 1
            focus (intro w hSw; (try dsimp only at hSw); go_simp; (try with_reducible rfl))
            (repeat (first | simp only [Act.put] | simp only [List.setIfInBounds_toArray] | simp only [List.set_cons_zero] | simp only [List.set_cons_succ]))
            refine takeD (i := 27) (d := some 38) (v := ?_) rfl rfl (by kernel_rfl) (by kernel_rfl) (by kernel_rfl) (fun _ _ _ h => h) (Or.inl ⟨by rfl, ?_⟩) hHeld ?_
            rotate_left 1
            focus (intro w hSw; (try dsimp only at hSw); go_simp; (try with_reducible rfl))
            (repeat (first | simp only [Act.put] | simp only [List.setIfInBounds_toArray] | simp only [List.set_cons_zero] | simp only [List.set_cons_succ]))
            refine takeD (i := 28) (d := some 39) (v := ?_) rfl rfl (by kernel_rfl) (by kernel_rfl) (by kernel_rfl) (fun _ _ _ h => h) (Or.inl ⟨by rfl, ?_⟩) hHeld ?_
            rotate_left 1
            focus (intro w hSw; (try dsimp only at hSw); go_simp; (try with_reducible rfl))
            (repeat (first | simp only [Act.put] | simp only [List.setIfInBounds_toArray] | simp only [List.set_cons_zero] | simp only [List.set_cons_succ]))
            refine takeD (i := 29) (d := some 40) (v := ?_) rfl rfl (by kernel_rfl) (by kernel_rfl) (by kernel_rfl) (fun _ _ _ h => h) (Or.inl ⟨by rfl, ?_⟩) hHeld ?_
            rotate_left 1
            focus (intro w hSw; (try dsimp only at hSw); go_simp; (try with_reducible rfl))
            (repeat (first | simp only [Act.put] | simp only [List.setIfInBounds_toArray] | simp only [List.set_cons_zero] | simp only [List.set_cons_succ]))
            refine takeD (i := 30) (d := some 41) (v := ?_) rfl rfl (by kernel_rfl) (by kernel_rfl) (by kernel_rfl) (fun _ _ _ h => h) (Or.inl ⟨by rfl, ?_⟩) hHeld ?_
            rotate_left 1
            focus (intro w hSw; (try dsimp only at hSw); go_simp; (try with_reducible rfl))
            (repeat (first | simp only [Act.put] | simp only [List.setIfInBounds_toArray] | simp only [List.set_cons_zero] | simp only [List.set_cons_succ]))
            by_cases hk3 : 3 < kd
            · skip
              have hk31 : (3 : Int) < (kd : Int) := by omega
              have hk3X := Lib.hid hk3
              clear hk3
              refine takeD (i := 31) (d := some 42) (v := ?_) rfl rfl (by kernel_rfl) (by kernel_rfl) (by kernel_rfl) (fun _ _ _ h => h) (Or.inl ⟨by rfl, ?_⟩) hHeld ?_
              rotate_left 1
              focus (intro w hSw; (try dsimp only at hSw); go_simp; (try with_reducible rfl))
              (repeat (first | simp only [Act.put] | simp only [List.setIfInBounds_toArray] | simp only [List.set_cons_zero] | simp only [List.set_cons_succ]))
              refine takeD (i := 32) (d := some 43) (v := ?_) rfl rfl (by kernel_rfl) (by kernel_rfl) (by kernel_rfl) (fun _ _ _ h => h) (Or.inl ⟨by rfl, ?_⟩) hHeld ?_
              rotate_left 1
              focus (intro w hSw; (try dsimp only at hSw); go_simp; (try with_reducible rfl))
              (repeat (first | simp only [Act.put] | simp only [List.setIfInBounds_toArray] | simp only [List.set_cons_zero] | simp only [List.set_cons_succ]))
              refine takeD (i := 33) (d := some 44) (v := ?_) rfl rfl (by kernel_rfl) (by kernel_rfl) (by kernel_rfl) (fun _ _ _ h => h) (Or.inl ⟨by rfl, ?_⟩) hHeld ?_
              rotate_left 1
              focus (intro w hSw; (try dsimp only at hSw); go_simp; (try with_reducible rfl))
              (repeat (first | simp only [Act.put] | simp only [List.setIfInBounds_toArray] | simp only [List.set_cons_zero] | simp only [List.set_cons_succ]))
              refine takeD (i := 34) (d := some 45) (v := undef) rfl rfl (by kernel_rfl) (by kernel_rfl) (by kernel_rfl) (fun _ _ _ h => h) (Or.inr ⟨by rfl, rfl⟩) hHeld ?_
              (repeat (first | simp only [Act.put] | simp only [List.setIfInBounds_toArray] | simp only [List.set_cons_zero] | simp only [List.set_cons_succ]))
              refine takeD (i := 35) (d := some 46) (v := undef) rfl rfl (by kernel_rfl) (by kernel_rfl) (by kernel_rfl) (fun _ _ _ h => h) (Or.inr ⟨by rfl, rfl⟩) hHeld ?_
              (repeat (first | simp only [Act.put] | simp only [List.setIfInBounds_toArray] | simp only [List.set_cons_zero] | simp only [List.set_cons_succ]))
              refine takeD (i := 36) (d := some 47) (v := ?_) rfl rfl (by kernel_rfl) (by kernel_rfl) (by kernel_rfl) (fun _ _ _ h => h) (Or.inl ⟨by rfl, ?_⟩) hHeld ?_
              rotate_left 1
              focus (intro w hSw; (try dsimp only at hSw); go_simp; (try with_reducible rfl))
              (repeat (first | simp only [Act.put] | simp only [List.setIfInBounds_toArray] | simp only [List.set_cons_zero] | simp only [List.set_cons_succ]))
              refine takeD (i := 37) (d := some 48) (v := ?_) rfl rfl (by kernel_rfl) (by kernel_rfl) (by kernel_rfl) (fun _ _ _ h => h) (Or.inl ⟨by rfl, ?_⟩) hHeld ?_
              rotate_left 1
              focus (intro w hSw; (try dsimp only at hSw); go_simp; (try with_reducible rfl))
              (repeat (first | simp only [Act.put] | simp only [List.setIfInBounds_toArray] | simp only [List.set_cons_zero] | simp only [List.set_cons_succ]))
              refine takeD (i := 38) (d := some 49) (v := undef) rfl rfl (by kernel_rfl) (by kernel_rfl) (by kernel_rfl) (fun _ _ _ h => h) (Or.inr ⟨by rfl, rfl⟩) hHeld ?_
              (repeat (first | simp only [Act.put] | simp only [List.setIfInBounds_toArray] | simp only [List.set_cons_zero] | simp only [List.set_cons_succ]))
              refine takeD (i := 39) (d := some 50) (v := undef) rfl rfl (by kernel_rfl) (by kernel_rfl) (by kernel_rfl) (fun _ _ _ h => h) (Or.inr ⟨by rfl, rfl⟩) hHeld ?_
              (repeat (first | simp only [Act.put] | simp only [List.setIfInBounds_toArray] | simp only [List.set_cons_zero] | simp only [List.set_cons_succ]))
              refine takeD (i := 40) (d := some 51) (v := undef) rfl rfl (by kernel_rfl) (by kernel_rfl) (by kernel_rfl) (fun _ _ _ h => h) (Or.inr ⟨by rfl, rfl⟩) hHeld ?_
              (repeat (first | simp only [Act.put] | simp only [List.setIfInBounds_toArray] | simp only [List.set_cons_zero] | simp only [List.set_cons_succ]))
              refine takeD (i := 41) (d := some 52) (v := undef) rfl rfl (by kernel_rfl) (by kernel_rfl) (by kernel_rfl) (fun _ _ _ h => h) (Or.inr ⟨by rfl, rfl⟩) hHeld ?_
              (repeat (first | simp only [Act.put] | simp only [List.setIfInBounds_toArray] | simp only [List.set_cons_zero] | simp only [List.set_cons_succ]))
              refine takeD (i := 42) (d := some 53) (v := undef) rfl rfl (by kernel_rfl) (by kernel_rfl) (by kernel_rfl) (fun _ _ _ h => h) (Or.inr ⟨by rfl, rfl⟩) hHeld ?_
              (repeat (first | simp only [Act.put] | simp only [List.setIfInBounds_toArray] | simp only [List.set_cons_zero] | simp only [List.set_cons_succ]))
              refine takeD (i := 43) (d := some 54) (v := undef) rfl rfl (by kernel_rfl) (by kernel_rfl) (by kernel_rfl) (fun _ _ _ h => h) (Or.inr ⟨by rfl, rfl⟩) hHeld ?_
              (repeat (first | simp only [Act.put] | simp only [List.setIfInBounds_toArray] | simp only [List.set_cons_zero] | simp only [List.set_cons_succ]))
              refine takeD (i := 44) (d := some 55) (v := undef) rfl rfl (by kernel_rfl) (by kernel_rfl) (by kernel_rfl) (fun _ _ _ h => h) (Or.inr ⟨by rfl, rfl⟩) hHeld ?_
              (repeat (first | simp only [Act.put] | simp only [List.setIfInBounds_toArray] | simp only [List.set_cons_zero] | simp only [List.set_cons_succ]))
              refine takeD (i := 45) (d := some 56) (v := undef) rfl rfl (by kernel_rfl) (by kernel_rfl) (by kernel_rfl) (fun _ _ _ h => h) (Or.inr ⟨by rfl, rfl⟩) hHeld ?_
              (repeat (first | simp only [Act.put] | simp only [List.setIfInBounds_toArray] | simp only [List.set_cons_zero] | simp only [List.set_cons_succ]))
              refine takeD (i := 46) (d := some 57) (v := ?_) rfl rfl (by kernel_rfl) (by kernel_rfl) (by kernel_rfl) (fun _ _ _ h => h) (Or.inl ⟨by rfl, ?_⟩) hHeld ?_
              rotate_left 1
              focus (intro w hSw; (try dsimp only at hSw); go_simp; (try with_reducible rfl))
              (repeat (first | simp only [Act.put] | simp only [List.setIfInBounds_toArray] | simp only [List.set_cons_zero] | simp only [List.set_cons_succ]))
              refine takeD (i := 47) (d := some 58) (v := ?_) rfl rfl (by kernel_rfl) (by kernel_rfl) (by kernel_rfl) (fun _ _ _ h => h) (Or.inl ⟨by rfl, ?_⟩) hHeld ?_
              rotate_left 1
              focus (intro w hSw; (try dsimp only at hSw); go_simp; (try with_reducible rfl))
              (repeat (first | simp only [Act.put] | simp only [List.setIfInBounds_toArray] | simp only [List.set_cons_zero] | simp only [List.set_cons_succ]))
              refine takeD (i := 48) (d := some 59) (v := undef) rfl rfl (by kernel_rfl) (by kernel_rfl) (by kernel_rfl) (fun _ _ _ h => h) (Or.inr ⟨by rfl, rfl⟩) hHeld ?_
              (repeat (first | simp only [Act.put] | simp only [List.setIfInBounds_toArray] | simp only [List.set_cons_zero] | simp only [List.set_cons_succ]))
              refine takeD (i := 49) (d := some 60) (v := undef) rfl rfl (by kernel_rfl) (by kernel_rfl) (by kernel_rfl) (fun _ _ _ h => h) (Or.inr ⟨by rfl, rfl⟩) hHeld ?_
              (repeat (first | simp only [Act.put] | simp only [List.setIfInBounds_toArray] | simp only [List.set_cons_zero] | simp only [List.set_cons_succ]))
              refine takeD (i := 50) (d := some 61) (v := undef) rfl rfl (by kernel_rfl) (by kernel_rfl) (by kernel_rfl) (fun _ _ _ h => h) (Or.inr ⟨by rfl, rfl⟩) hHeld ?_
              (repeat (first | simp only [Act.put] | simp only [List.setIfInBounds_toArray] | simp only [List.set_cons_zero] | simp only [List.set_cons_succ]))
              refine takeD (i := 51) (d := some 62) (v := undef) rfl rfl (by kernel_rfl) (by kernel_rfl) (by kernel_rfl) (fun _ _ _ h => h) (Or.inr ⟨by rfl, rfl⟩) hHeld ?_
              (repeat (first | simp only [Act.put] | simp only [List.setIfInBounds_toArray] | simp only [List.set_cons_zero] | simp only [List.set_cons_succ]))
              refine takeD (i := 52) (d := some 63) (v := undef) rfl rfl (by kernel_rfl) (by kernel_rfl) (by kernel_rfl) (fun _ _ _ h => h) (Or.inr ⟨by rfl, rfl⟩) hHeld ?_
              (repeat (first | simp only [Act.put] | simp only [List.setIfInBounds_toArray] | simp only [List.set_cons_zero] | simp only [List.set_cons_succ]))
              refine takeD (i := 53) (d := some 64) (v := undef) rfl rfl (by kernel_rfl) (by kernel_rfl) (by kernel_rfl) (fun _ _ _ h => h) (Or.inr ⟨by rfl, rfl⟩) hHeld ?_
              (repeat (first | simp only [Act.put] | simp only [List.setIfInBounds_toArray] | simp only [List.set_cons_zero] | simp only [List.set_cons_succ]))
              refine takeD (i := 54) (d := some 65) (v := undef) rfl rfl (by kernel_rfl) (by kernel_rfl) (by kernel_rfl) (fun _ _ _ h => h) (Or.inr ⟨by rfl, rfl⟩) hHeld ?_
              (repeat (first | simp only [Act.put] | simp only [List.setIfInBounds_toArray] | simp only [List.set_cons_zero] | simp only [List.set_cons_succ]))
              refine takeD (i := 55) (d := some 66) (v := undef) rfl rfl (by kernel_rfl) (by kernel_rfl) (by kernel_rfl) (fun _ _ _ h => h) (Or.inr ⟨by rfl, rfl⟩) hHeld ?_
              (repeat (first | simp only [Act.put] | simp only [List.setIfInBounds_toArray] | simp only [List.set_cons_zero] | simp only [List.set_cons_succ]))
              refine takeD (i := 56) (d := some 67) (v := undef) rfl rfl (by kernel_rfl) (by kernel_rfl) (by kernel_rfl) (fun _ _ _ h => h) (Or.inr ⟨by rfl, rfl⟩) hHeld ?_
              (repeat (first | simp only [Act.put] | simp only [List.setIfInBounds_toArray] | simp only [List.set_cons_zero] | simp only [List.set_cons_succ]))
              refine takeD (i := 57) (d := some 68) (v := ?_) rfl rfl (by kernel_rfl) (by kernel_rfl) (by kernel_rfl) (fun _ _ _ h => h) (Or.inl ⟨by rfl, ?_⟩) hHeld ?_
              rotate_left 1
              focus (intro w hSw; (try dsimp only at hSw); go_simp; (try with_reducible rfl))
              (repeat (first | simp only [Act.put] | simp only [List.setIfInBounds_toArray] | simp only [List.set_cons_zero] | simp only [List.set_cons_succ]))
              refine wpAnyH_done (by kernel_rfl) ?_ _
              have hqrXO := hqrX.out
              have hpkXO := hpkX.out
              have hk3XO := hk3X.out
              have hz : d = false := by
                rw [HD.out, Bool.eq_false_iff]
                intro hh
                simp only [Bool.and_eq_true, Bool.or_eq_true, decide_eq_true_eq, ne_eq] at hh
                omega
              clear hqrXO hpkXO hk3XO
              go_wp2_with fail
              go_meet
              case rel => exact ⟨rfl, by rw [hz]; rfl, Lib.hid (by repeat (first | with_reducible exact Below.refl _ _ | with_reducible exact HB9.out | (with_reducible refine Below.alloc ?_ (by simp) _) | (with_reducible refine Below.drew ?_)))⟩
            · skip
              have hk31 : ¬ (3 : Int) < (kd : Int) := by omega
              have hk32 : decide (3 < kd) = false := decide_eq_false hk3
              have hk3X := Lib.hid hk3
              clear hk3
              refine takeD (i := 31) (d := some 42) (v := ?_) rfl rfl (by kernel_rfl) (by kernel_rfl) (by kernel_rfl) (fun _ _ _ h => h) (Or.inl ⟨by rfl, ?_⟩) hHeld ?_
              rotate_left 1
              focus (intro w hSw; (try dsimp only at hSw); go_simp; (try with_reducible rfl))
              (repeat (first | simp only [Act.put] | simp only [List.setIfInBounds_toArray] | simp only [List.set_cons_zero] | simp only [List.set_cons_succ]))
              refine takeD (i := 32) (d := some 43) (v := ?_) rfl rfl (by kernel_rfl) (by kernel_rfl) (by kernel_rfl) (fun _ _ _ h => h) (Or.inl ⟨by rfl, ?_⟩) hHeld ?_
              rotate_left 1
              focus (intro w hSw; (try dsimp only at hSw); go_simp; (try with_reducible rfl))
              (repeat (first | simp only [Act.put] | simp only [List.setIfInBounds_toArray] | simp only [List.set_cons_zero] | simp only [List.set_cons_succ]))
              refine takeD (i := 33) (d := some 44) (v := ?_) rfl rfl (by kernel_rfl) (by kernel_rfl) (by kernel_rfl) (fun _ _ _ h => h) (Or.inl ⟨by rfl, ?_⟩) hHeld ?_
              rotate_left 1
              focus (intro w hSw; (try dsimp only at hSw); go_simp; (try with_reducible rfl))
              (repeat (first | simp only [Act.put] | simp only [List.setIfInBounds_toArray] | simp only [List.set_cons_zero] | simp only [List.set_cons_succ]))
              refine takeD (i := 34) (d := some 45) (v := ?_) rfl rfl (by kernel_rfl) (by kernel_rfl) (by kernel_rfl) (fun _ _ _ h => h) (Or.inl ⟨by rfl, ?_⟩) hHeld ?_
              rotate_left 1
              focus (intro w hSw; (try dsimp only at hSw); go_simp; (try with_reducible rfl))
              (repeat (first | simp only [Act.put] | simp only [List.setIfInBounds_toArray] | simp only [List.set_cons_zero] | simp only [List.set_cons_succ]))
              by_cases hn116 : 116 < n
              · skip
                have hn1161 : (116 : Int) < (n : Int) := by omega
                have hn116X := Lib.hid hn116
                clear hn116
                refine takeD (i := 35) (d := some 46) (v := ?_) rfl rfl (by kernel_rfl) (by kernel_rfl) (by kernel_rfl) (fun _ _ _ h => h) (Or.inl ⟨by rfl, ?_⟩) hHeld ?_
                rotate_left 1
                focus (intro w hSw; (try dsimp only at hSw); go_simp; (try with_reducible rfl))
                (repeat (first | simp only [Act.put] | simp only [List.setIfInBounds_toArray] | simp only [List.set_cons_zero] | simp only [List.set_cons_succ]))
                refine takeD (i := 36) (d := some 47) (v := ?_) rfl rfl (by kernel_rfl) (by kernel_rfl) (by kernel_rfl) (fun _ _ _ h => h) (Or.inl ⟨by rfl, ?_⟩) hHeld ?_
                rotate_left 1
                focus (intro w hSw; (try dsimp only at hSw); go_simp; (try with_reducible rfl))
                (repeat (first | simp only [Act.put] | simp only [List.setIfInBounds_toArray] | simp only [List.set_cons_zero] | simp only [List.set_cons_succ]))
                refine takeD (i := 37) (d := some 48) (v := ?_) rfl rfl (by kernel_rfl) (by kernel_rfl) (by kernel_rfl) (fun _ _ _ h => h) (Or.inl ⟨by rfl, ?_⟩) hHeld ?_
                rotate_left 1
                focus (intro w hSw; (try dsimp only at hSw); go_simp; (try with_reducible rfl))
                (repeat (first | simp only [Act.put] | simp only [List.setIfInBounds_toArray] | simp only [List.set_cons_zero] | simp only [List.set_cons_succ]))
                refine takeD (i := 38) (d := some 49) (v := undef) rfl rfl (by kernel_rfl) (by kernel_rfl) (by kernel_rfl) (fun _ _ _ h => h) (Or.inr ⟨by rfl, rfl⟩) hHeld ?_
                (repeat (first | simp only [Act.put] | simp only [List.setIfInBounds_toArray] | simp only [List.set_cons_zero] | simp only [List.set_cons_succ]))
                refine takeD (i := 39) (d := some 50) (v := undef) rfl rfl (by kernel_rfl) (by kernel_rfl) (by kernel_rfl) (fun _ _ _ h => h) (Or.inr ⟨by rfl, rfl⟩) hHeld ?_
                (repeat (first | simp only [Act.put] | simp only [List.setIfInBounds_toArray] | simp only [List.set_cons_zero] | simp only [List.set_cons_succ]))
                refine takeD (i := 40) (d := some 51) (v := undef) rfl rfl (by kernel_rfl) (by kernel_rfl) (by kernel_rfl) (fun _ _ _ h => h) (Or.inr ⟨by rfl, rfl⟩) hHeld ?_
                (repeat (first | simp only [Act.put] | simp only [List.setIfInBounds_toArray] | simp only [List.set_cons_zero] | simp only [List.set_cons_succ]))
                refine takeD (i := 41) (d := some 52) (v := undef) rfl rfl (by kernel_rfl) (by kernel_rfl) (by kernel_rfl) (fun _ _ _ h => h) (Or.inr ⟨by rfl, rfl⟩) hHeld ?_
                (repeat (first | simp only [Act.put] | simp only [List.setIfInBounds_toArray] | simp only [List.set_cons_zero] | simp only [List.set_cons_succ]))
                refine takeD (i := 42) (d := some 53) (v := undef) rfl rfl (by kernel_rfl) (by kernel_rfl) (by kernel_rfl) (fun _ _ _ h => h) (Or.inr ⟨by rfl, rfl⟩) hHeld ?_
                (repeat (first | simp only [Act.put] | simp only [List.setIfInBounds_toArray] | simp only [List.set_cons_zero] | simp only [List.set_cons_succ]))
                refine takeD (i := 43) (d := some 54) (v := undef) rfl rfl (by kernel_rfl) (by kernel_rfl) (by kernel_rfl) (fun _ _ _ h => h) (Or.inr ⟨by rfl, rfl⟩) hHeld ?_
                (repeat (first | simp only [Act.put] | simp only [List.setIfInBounds_toArray] | simp only [List.set_cons_zero] | simp only [List.set_cons_succ]))
                refine takeD (i := 44) (d := some 55) (v := undef) rfl rfl (by kernel_rfl) (by kernel_rfl) (by kernel_rfl) (fun _ _ _ h => h) (Or.inr ⟨by rfl, rfl⟩) hHeld ?_
                (repeat (first | simp only [Act.put] | simp only [List.setIfInBounds_toArray] | simp only [List.set_cons_zero] | simp only [List.set_cons_succ]))
                refine takeD (i := 45) (d := some 56) (v := undef) rfl rfl (by kernel_rfl) (by kernel_rfl) (by kernel_rfl) (fun _ _ _ h => h) (Or.inr ⟨by rfl, rfl⟩) hHeld ?_
                (repeat (first | simp only [Act.put] | simp only [List.setIfInBounds_toArray] | simp only [List.set_cons_zero] | simp only [List.set_cons_succ]))
                refine takeD (i := 46) (d := some 57) (v := ?_) rfl rfl (by kernel_rfl) (by kernel_rfl) (by kernel_rfl) (fun _ _ _ h => h) (Or.inl ⟨by rfl, ?_⟩) hHeld ?_
                rotate_left 1
                focus (intro w hSw; (try dsimp only at hSw); go_simp; (try with_reducible rfl))
                (repeat (first | simp only [Act.put] | simp only [List.setIfInBounds_toArray] | simp only [List.set_cons_zero] | simp only [List.set_cons_succ]))
                refine takeD (i := 47) (d := some 58) (v := ?_) rfl rfl (by kernel_rfl) (by kernel_rfl) (by kernel_rfl) (fun _ _ _ h => h) (Or.inl ⟨by rfl, ?_⟩) hHeld ?_
                rotate_left 1
                focus (intro w hSw; (try dsimp only at hSw); go_simp; (try with_reducible rfl))
                (repeat (first | simp only [Act.put] | simp only [List.setIfInBounds_toArray] | simp only [List.set_cons_zero] | simp only [List.set_cons_succ]))
                refine takeD (i := 48) (d := some 59) (v := undef) rfl rfl (by kernel_rfl) (by kernel_rfl) (by kernel_rfl) (fun _ _ _ h => h) (Or.inr ⟨by rfl, rfl⟩) hHeld ?_
                (repeat (first | simp only [Act.put] | simp only [List.setIfInBounds_toArray] | simp only [List.set_cons_zero] | simp only [List.set_cons_succ]))
                refine takeD (i := 49) (d := some 60) (v := undef) rfl rfl (by kernel_rfl) (by kernel_rfl) (by kernel_rfl) (fun _ _ _ h => h) (Or.inr ⟨by rfl, rfl⟩) hHeld ?_
                (repeat (first | simp only [Act.put] | simp only [List.setIfInBounds_toArray] | simp only [List.set_cons_zero] | simp only [List.set_cons_succ]))
                refine takeD (i := 50) (d := some 61) (v := undef) rfl rfl (by kernel_rfl) (by kernel_rfl) (by kernel_rfl) (fun _ _ _ h => h) (Or.inr ⟨by rfl, rfl⟩) hHeld ?_
                (repeat (first | simp only [Act.put] | simp only [List.setIfInBounds_toArray] | simp only [List.set_cons_zero] | simp only [List.set_cons_succ]))
                refine takeD (i := 51) (d := some 62) (v := undef) rfl rfl (by kernel_rfl) (by kernel_rfl) (by kernel_rfl) (fun _ _ _ h => h) (Or.inr ⟨by rfl, rfl⟩) hHeld ?_
                (repeat (first | simp only [Act.put] | simp only [List.setIfInBounds_toArray] | simp only [List.set_cons_zero] | simp only [List.set_cons_succ]))
                refine takeD (i := 52) (d := some 63) (v := undef) rfl rfl (by kernel_rfl) (by kernel_rfl) (by kernel_rfl) (fun _ _ _ h => h) (Or.inr ⟨by rfl, rfl⟩) hHeld ?_
                (repeat (first | simp only [Act.put] | simp only [List.setIfInBounds_toArray] | simp only [List.set_cons_zero] | simp only [List.set_cons_succ]))
                refine takeD (i := 53) (d := some 64) (v := undef) rfl rfl (by kernel_rfl) (by kernel_rfl) (by kernel_rfl) (fun _ _ _ h => h) (Or.inr ⟨by rfl, rfl⟩) hHeld ?_
                (repeat (first | simp only [Act.put] | simp only [List.setIfInBounds_toArray] | simp only [List.set_cons_zero] | simp only [List.set_cons_succ]))
                refine takeD (i := 54) (d := some 65) (v := undef) rfl rfl (by kernel_rfl) (by kernel_rfl) (by kernel_rfl) (fun _ _ _ h => h) (Or.inr ⟨by rfl, rfl⟩) hHeld ?_
                (repeat (first | simp only [Act.put] | simp only [List.setIfInBounds_toArray] | simp only [List.set_cons_zero] | simp only [List.set_cons_succ]))
                refine takeD (i := 55) (d := some 66) (v := undef) rfl rfl (by kernel_rfl) (by kernel_rfl) (by kernel_rfl) (fun _ _ _ h => h) (Or.inr ⟨by rfl, rfl⟩) hHeld ?_
                (repeat (first | simp only [Act.put] | simp only [List.setIfInBounds_toArray] | simp only [List.set_cons_zero] | simp only [List.set_cons_succ]))
                refine takeD (i := 56) (d := some 67) (v := undef) rfl rfl (by kernel_rfl) (by kernel_rfl) (by kernel_rfl) (fun _ _ _ h => h) (Or.inr ⟨by rfl, rfl⟩) hHeld ?_
                (repeat (first | simp only [Act.put] | simp only [List.setIfInBounds_toArray] | simp only [List.set_cons_zero] | simp only [List.set_cons_succ]))
                refine takeD (i := 57) (d := some 68) (v := ?_) rfl rfl (by kernel_rfl) (by kernel_rfl) (by kernel_rfl) (fun _ _ _ h => h) (Or.inl ⟨by rfl, ?_⟩) hHeld ?_
                rotate_left 1
                focus (intro w hSw; (try dsimp only at hSw); go_simp; (try with_reducible rfl))
                (repeat (first | simp only [Act.put] | simp only [List.setIfInBounds_toArray] | simp only [List.set_cons_zero] | simp only [List.set_cons_succ]))
                refine wpAnyH_done (by kernel_rfl) ?_ _
                have hqrXO := hqrX.out
                have hpkXO := hpkX.out
                have hk3XO := hk3X.out
                have hn116XO := hn116X.out
                have hz : d = false := by
                  rw [HD.out, Bool.eq_false_iff]
                  intro hh
                  simp only [Bool.and_eq_true, Bool.or_eq_true, decide_eq_true_eq, ne_eq] at hh
                  omega
                clear hqrXO hpkXO hk3XO hn116XO
                go_wp2_with fail
                go_meet
                case rel => exact ⟨rfl, by rw [hz]; rfl, Lib.hid (by repeat (first | with_reducible exact Below.refl _ _ | with_reducible exact HB9.out | (with_reducible refine Below.alloc ?_ (by simp) _) | (with_reducible refine Below.drew ?_)))⟩
              · skip
                have hn1161 : ¬ (116 : Int) < (n : Int) := by omega
                have hn1162 : decide (116 < n) = false := decide_eq_false hn116
                have hn116X := Lib.hid hn116
                clear hn116
                refine takeD (i := 35) (d := some 46) (v := ?_) rfl rfl (by kernel_rfl) (by kernel_rfl) (by kernel_rfl) (fun _ _ _ h => h) (Or.inl ⟨by rfl, ?_⟩) hHeld ?_
                rotate_left 1
                focus (intro w hSw; (try dsimp only at hSw); go_simp; (try with_reducible rfl))
                (repeat (first | simp only [Act.put] | simp only [List.setIfInBounds_toArray] | simp only [List.set_cons_zero] | simp only [List.set_cons_succ]))
                refine takeD (i := 36) (d := some 47) (v := ?_) rfl rfl (by kernel_rfl) (by kernel_rfl) (by kernel_rfl) (fun _ _ _ h => h) (Or.inl ⟨by rfl, ?_⟩) hHeld ?_
                rotate_left 1
                focus (intro w hSw; (try dsimp only at hSw); go_simp; (try with_reducible rfl))
                (repeat (first | simp only [Act.put] | simp only [List.setIfInBounds_toArray] | simp only [List.set_cons_zero] | simp only [List.set_cons_succ]))
                refine takeD (i := 37) (d := some 48) (v := ?_) rfl rfl (by kernel_rfl) (by kernel_rfl) (by kernel_rfl) (fun _ _ _ h => h) (Or.inl ⟨by rfl, ?_⟩) hHeld ?_
                rotate_left 1
                focus (intro w hSw; (try dsimp only at hSw); go_simp; (try with_reducible rfl))
                (repeat (first | simp only [Act.put] | simp only [List.setIfInBounds_toArray] | simp only [List.set_cons_zero] | simp only [List.set_cons_succ]))
                refine takeD (i := 38) (d := some 49) (v := ?_) rfl rfl (by kernel_rfl) (by kernel_rfl) (by kernel_rfl) (fun _ _ _ h => h) (Or.inl ⟨by rfl, ?_⟩) hHeld ?_
                rotate_left 1
                focus (intro w hSw; (try dsimp only at hSw); go_simp; (try with_reducible rfl))
                (repeat (first | simp only [Act.put] | simp only [List.setIfInBounds_toArray] | simp only [List.set_cons_zero] | simp only [List.set_cons_succ]))
                refine takeD (i := 39) (d := some 50) (v := ?_) rfl rfl (by kernel_rfl) (by kernel_rfl) (by kernel_rfl) (fun _ _ _ h => h) (Or.inl ⟨by rfl, ?_⟩) hHeld ?_
                rotate_left 1
                focus (intro w hSw; (try dsimp only at hSw); go_simp; (try with_reducible rfl))
                (repeat (first | simp only [Act.put] | simp only [List.setIfInBounds_toArray] | simp only [List.set_cons_zero] | simp only [List.set_cons_succ]))
                refine takeD (i := 40) (d := some 51) (v := ?_) rfl rfl (by kernel_rfl) (by kernel_rfl) (by kernel_rfl) (fun _ _ _ h => h) (Or.inl ⟨by rfl, ?_⟩) hHeld ?_
                rotate_left 1
                focus (intro w hSw; (try dsimp only at hSw); go_simp; (try with_reducible rfl))
                (repeat (first | simp only [Act.put] | simp only [List.setIfInBounds_toArray] | simp only [List.set_cons_zero] | simp only [List.set_cons_succ]))
                by_cases hk2 : kd < 2
                · skip
                  have hk21 : (kd : Int) < 2 := by omega
                  have hk2X := Lib.hid hk2
                  clear hk2
                  refine takeD (i := 41) (d := some 52) (v := ?_) rfl rfl (by kernel_rfl) (by kernel_rfl) (by kernel_rfl) (fun _ _ _ h => h) (Or.inl ⟨by rfl, ?_⟩) hHeld ?_
                  rotate_left 1
                  focus (intro w hSw; (try dsimp only at hSw); go_simp; (try with_reducible rfl))
                  (repeat (first | simp only [Act.put] | simp only [List.setIfInBounds_toArray] | simp only [List.set_cons_zero] | simp only [List.set_cons_succ]))
                  refine takeD (i := 42) (d := some 53) (v := ?_) rfl rfl (by kernel_rfl) (by kernel_rfl) (by kernel_rfl) (fun _ _ _ h => h) (Or.inl ⟨by rfl, ?_⟩) hHeld ?_
                  rotate_left 1
                  focus (intro w hSw; (try dsimp only at hSw); go_simp; (try with_reducible rfl))
                  (repeat (first | simp only [Act.put] | simp only [List.setIfInBounds_toArray] | simp only [List.set_cons_zero] | simp only [List.set_cons_succ]))
                  refine takeD (i := 43) (d := some 54) (v := ?_) rfl rfl (by kernel_rfl) (by kernel_rfl) (by kernel_rfl) (fun _ _ _ h => h) (Or.inl ⟨by rfl, ?_⟩) hHeld ?_
                  rotate_left 1
                  focus (intro w hSw; (try dsimp only at hSw); go_simp; (try with_reducible rfl))
                  (repeat (first | simp only [Act.put] | simp only [List.setIfInBounds_toArray] | simp only [List.set_cons_zero] | simp only [List.set_cons_succ]))
                  by_cases hn7 : n = 116
                  · skip
                    have hn71 : ((n : Int) != 116) = false := by rw [bne_eq_false_iff_eq]; omega
                    have hn72 : (n != 116) = false := by rw [bne_eq_false_iff_eq]; omega
                    have hn7X := Lib.hid hn7
                    clear hn7
                    refine takeD (i := 44) (d := some 55) (v := ?_) rfl rfl (by kernel_rfl) (by kernel_rfl) (by kernel_rfl) (fun _ _ _ h => h) (Or.inl ⟨by rfl, ?_⟩) hHeld ?_
                    rotate_left 1
                    focus (intro w hSw; (try dsimp only at hSw); go_simp; (try with_reducible rfl))
                    (repeat (first | simp only [Act.put] | simp only [List.setIfInBounds_toArray] | simp only [List.set_cons_zero] | simp only [List.set_cons_succ]))
                    refine takeD (i := 45) (d := some 56) (v := ?_) rfl rfl (by kernel_rfl) (by kernel_rfl) (by kernel_rfl) (fun _ _ _ h => h) (Or.inl ⟨by rfl, ?_⟩) hHeld ?_
                    rotate_left 1
                    focus (intro w hSw; (try dsimp only at hSw); go_simp; (try with_reducible rfl))
                    (repeat (first | simp only [Act.put] | simp only [List.setIfInBounds_toArray] | simp only [List.set_cons_zero] | simp only [List.set_cons_succ]))
                    refine takeD (i := 46) (d := some 57) (v := ?_) rfl rfl (by kernel_rfl) (by kernel_rfl) (by kernel_rfl) (fun _ _ _ h => h) (Or.inl ⟨by rfl, ?_⟩) hHeld ?_
                    rotate_left 1
                    focus (intro w hSw; (try dsimp only at hSw); go_simp; (try with_reducible rfl))
                    (repeat (first | simp only [Act.put] | simp only [List.setIfInBounds_toArray] | simp only [List.set_cons_zero] | simp only [List.set_cons_succ]))
                    refine takeD (i := 47) (d := some 58) (v := ?_) rfl rfl (by kernel_rfl) (by kernel_rfl) (by kernel_rfl) (fun _ _ _ h => h) (Or.inl ⟨by rfl, ?_⟩) hHeld ?_
                    rotate_left 1
                    focus (intro w hSw; (try dsimp only at hSw); go_simp; (try with_reducible rfl))
                    (repeat (first | simp only [Act.put] | simp only [List.setIfInBounds_toArray] | simp only [List.set_cons_zero] | simp only [List.set_cons_succ]))
                    refine takeD (i := 48) (d := some 59) (v := ?_) rfl rfl (by kernel_rfl) (by kernel_rfl) (by kernel_rfl) (fun _ _ _ h => h) (Or.inl ⟨by rfl, ?_⟩) hHeld ?_
                    rotate_left 1
                    focus (intro w hSw; (try dsimp only at hSw); go_simp; (try with_reducible rfl))
                    (repeat (first | simp only [Act.put] | simp only [List.setIfInBounds_toArray] | simp only [List.set_cons_zero] | simp only [List.set_cons_succ]))
                    refine takeD (i := 49) (d := some 60) (v := ?_) rfl rfl (by kernel_rfl) (by kernel_rfl) (by kernel_rfl) (fun _ _ _ h => h) (Or.inl ⟨by rfl, ?_⟩) hHeld ?_
                    rotate_left 1
                    focus (intro w hSw; (try dsimp only at hSw); go_simp; (try with_reducible rfl))
                    (repeat (first | simp only [Act.put] | simp only [List.setIfInBounds_toArray] | simp only [List.set_cons_zero] | simp only [List.set_cons_succ]))
                    refine takeD (i := 50) (d := some 61) (v := ?_) rfl rfl (by kernel_rfl) (by kernel_rfl) (by kernel_rfl) (fun _ _ _ h => h) (Or.inl ⟨by rfl, ?_⟩) hHeld ?_
                    rotate_left 1
                    focus (intro w hSw; (try dsimp only at hSw); go_simp; (try with_reducible rfl))
                    (repeat (first | simp only [Act.put] | simp only [List.setIfInBounds_toArray] | simp only [List.set_cons_zero] | simp only [List.set_cons_succ]))
                    by_cases ho : kd % 2 = 1
                    · skip
                      have ho0 : (kd : Int).tmod 2 = 1 := by rw [Int.tmod_eq_emod_of_nonneg (by omega)]; omega
                      have ho1 : (kd : Int) % 2 = 1 := by omega
                      have ho2 : ((kd : Int) % 2 == 0) = false := by rw [beq_eq_false_iff_ne]; omega
                      have ho3 : (kd % 2 == 0) = false := by rw [beq_eq_false_iff_ne]; omega
                      have hoX := Lib.hid ho
                      clear ho
                      refine takeD (i := 51) (d := some 62) (v := ?_) rfl rfl (by kernel_rfl) (by kernel_rfl) (by kernel_rfl) (fun _ _ _ h => h) (Or.inl ⟨by rfl, ?_⟩) hHeld ?_
                      rotate_left 1
                      focus (intro w hSw; (try dsimp only at hSw); go_simp; (try with_reducible rfl))
                      (repeat (first | simp only [Act.put] | simp only [List.setIfInBounds_toArray] | simp only [List.set_cons_zero] | simp only [List.set_cons_succ]))
                      refine takeD (i := 52) (d := some 63) (v := ?_) rfl rfl (by kernel_rfl) (by kernel_rfl) (by kernel_rfl) (fun _ _ _ h => h) (Or.inl ⟨by rfl, ?_⟩) hHeld ?_
                      rotate_left 1
                      focus (intro w hSw; (try dsimp only at hSw); go_simp; (try with_reducible rfl))
                      (repeat (first | simp only [Act.put] | simp only [List.setIfInBounds_toArray] | simp only [List.set_cons_zero] | simp only [List.set_cons_succ]))
                      refine takeD (i := 53) (d := some 64) (v := ?_) rfl rfl (by kernel_rfl) (by kernel_rfl) (by kernel_rfl) (fun _ _ _ h => h) (Or.inl ⟨by rfl, ?_⟩) hHeld ?_
                      rotate_left 1
                      focus (intro w hSw; (try dsimp only at hSw); go_simp; (try with_reducible rfl))
                      (repeat (first | simp only [Act.put] | simp only [List.setIfInBounds_toArray] | simp only [List.set_cons_zero] | simp only [List.set_cons_succ]))
                      refine takeD (i := 54) (d := some 65) (v := undef) rfl rfl (by kernel_rfl) (by kernel_rfl) (by kernel_rfl) (fun _ _ _ h => h) (Or.inr ⟨by rfl, rfl⟩) hHeld ?_
                      (repeat (first | simp only [Act.put] | simp only [List.setIfInBounds_toArray] | simp only [List.set_cons_zero] | simp only [List.set_cons_succ]))
                      refine takeD (i := 55) (d := some 66) (v := undef) rfl rfl (by kernel_rfl) (by kernel_rfl) (by kernel_rfl) (fun _ _ _ h => h) (Or.inr ⟨by rfl, rfl⟩) hHeld ?_
                      (repeat (first | simp only [Act.put] | simp only [List.setIfInBounds_toArray] | simp only [List.set_cons_zero] | simp only [List.set_cons_succ]))
                      refine takeD (i := 56) (d := some 67) (v := ?_) rfl rfl (by kernel_rfl) (by kernel_rfl) (by kernel_rfl) (fun _ _ _ h => h) (Or.inl ⟨by rfl, ?_⟩) hHeld ?_
                      rotate_left 1
                      focus (intro w hSw; (try dsimp only at hSw); go_simp; (try with_reducible rfl))
                      (repeat (first | simp only [Act.put] | simp only [List.setIfInBounds_toArray] | simp only [List.set_cons_zero] | simp only [List.set_cons_succ]))
                      refine takeD (i := 57) (d := some 68) (v := ?_) rfl rfl (by kernel_rfl) (by kernel_rfl) (by kernel_rfl) (fun _ _ _ h => h) (Or.inl ⟨by rfl, ?_⟩) hHeld ?_
                      rotate_left 1
                      focus (intro w hSw; (try dsimp only at hSw); go_simp; (try with_reducible rfl))
                      (repeat (first | simp only [Act.put] | simp only [List.setIfInBounds_toArray] | simp only [List.set_cons_zero] | simp only [List.set_cons_succ]))
                      refine wpAnyH_done (by kernel_rfl) ?_ _
                      have hqrXO := hqrX.out
                      have hpkXO := hpkX.out
                      have hk3XO := hk3X.out
                      have hn116XO := hn116X.out
                      have hk2XO := hk2X.out
                      have hn7XO := hn7X.out
                      have hoXO := hoX.out
                      have hz : d = true := by rw [HD.out]; simp only [Bool.and_eq_true, Bool.or_eq_true, decide_eq_true_eq, ne_eq]; omega
                      clear hqrXO hpkXO hk3XO hn116XO hk2XO hn7XO hoXO
                      go_wp2_with fail
                      go_meet
                      case rel => exact ⟨rfl, by rw [hz]; rfl, Lib.hid (by repeat (first | with_reducible exact Below.refl _ _ | with_reducible exact HB9.out | (with_reducible refine Below.alloc ?_ (by simp) _) | (with_reducible refine Below.drew ?_)))⟩
                    · skip
                      have ho0 : (kd : Int).tmod 2 = 0 := by rw [Int.tmod_eq_emod_of_nonneg (by omega)]; omega
                      have ho1 : (kd : Int) % 2 = 0 := by omega
                      have hoX := Lib.hid ho
                      clear ho
                      refine takeD (i := 51) (d := some 62) (v := ?_) rfl rfl (by kernel_rfl) (by kernel_rfl) (by kernel_rfl) (fun _ _ _ h => h) (Or.inl ⟨by rfl, ?_⟩) hHeld ?_
                      rotate_left 1
                      focus (intro w hSw; (try dsimp only at hSw); go_simp; (try with_reducible rfl))
                      (repeat (first | simp only [Act.put] | simp only [List.setIfInBounds_toArray] | simp only [List.set_cons_zero] | simp only [List.set_cons_succ]))
                      refine takeD (i := 52) (d := some 63) (v := ?_) rfl rfl (by kernel_rfl) (by kernel_rfl) (by kernel_rfl) (fun _ _ _ h => h) (Or.inl ⟨by rfl, ?_⟩) hHeld ?_
                      rotate_left 1
                      focus (intro w hSw; (try dsimp only at hSw); go_simp; (try with_reducible rfl))
                      (repeat (first | simp only [Act.put] | simp only [List.setIfInBounds_toArray] | simp only [List.set_cons_zero] | simp only [List.set_cons_succ]))
                      refine takeD (i := 53) (d := some 64) (v := ?_) rfl rfl (by kernel_rfl) (by kernel_rfl) (by kernel_rfl) (fun _ _ _ h => h) (Or.inl ⟨by rfl, ?_⟩) hHeld ?_
                      rotate_left 1
                      focus (intro w hSw; (try dsimp only at hSw); go_simp; (try with_reducible rfl))
                      (repeat (first | simp only [Act.put] | simp only [List.setIfInBounds_toArray] | simp only [List.set_cons_zero] | simp only [List.set_cons_succ]))
                      refine takeD (i := 54) (d := some 65) (v := ?_) rfl rfl (by kernel_rfl) (by kernel_rfl) (by kernel_rfl) (fun _ _ _ h => h) (Or.inl ⟨by rfl, ?_⟩) hHeld ?_
                      rotate_left 1
                      focus (intro w hSw; (try dsimp only at hSw); go_simp; (try with_reducible rfl))
                      (repeat (first | simp only [Act.put] | simp only [List.setIfInBounds_toArray] | simp only [List.set_cons_zero] | simp only [List.set_cons_succ]))
                      by_cases hn8 : n = 0
                      · skip
                        have hn81 : ((n : Int) == 0) = true := by rw [beq_iff_eq]; omega
                        have hn82 : (n == 0) = true := by rw [beq_iff_eq]; omega
                        have hn8X := Lib.hid hn8
                        clear hn8
                        refine takeD (i := 55) (d := some 66) (v := ?_) rfl rfl (by kernel_rfl) (by kernel_rfl) (by kernel_rfl) (fun _ _ _ h => h) (Or.inl ⟨by rfl, ?_⟩) hHeld ?_
                        rotate_left 1
                        focus (intro w hSw; (try dsimp only at hSw); go_simp; (try with_reducible rfl))
                        (repeat (first | simp only [Act.put] | simp only [List.setIfInBounds_toArray] | simp only [List.set_cons_zero] | simp only [List.set_cons_succ]))
                        refine takeD (i := 56) (d := some 67) (v := ?_) rfl rfl (by kernel_rfl) (by kernel_rfl) (by kernel_rfl) (fun _ _ _ h => h) (Or.inl ⟨by rfl, ?_⟩) hHeld ?_
                        rotate_left 1
                        focus (intro w hSw; (try dsimp only at hSw); go_simp; (try with_reducible rfl))
                        (repeat (first | simp only [Act.put] | simp only [List.setIfInBounds_toArray] | simp only [List.set_cons_zero] | simp only [List.set_cons_succ]))
                        refine takeD (i := 57) (d := some 68) (v := ?_) rfl rfl (by kernel_rfl) (by kernel_rfl) (by kernel_rfl) (fun _ _ _ h => h) (Or.inl ⟨by rfl, ?_⟩) hHeld ?_
                        rotate_left 1
                        focus (intro w hSw; (try dsimp only at hSw); go_simp; (try with_reducible rfl))
                        (repeat (first | simp only [Act.put] | simp only [List.setIfInBounds_toArray] | simp only [List.set_cons_zero] | simp only [List.set_cons_succ]))
                        refine wpAnyH_done (by kernel_rfl) ?_ _
                        have hqrXO := hqrX.out
                        have hpkXO := hpkX.out
                        have hk3XO := hk3X.out
                        have hn116XO := hn116X.out
                        have hk2XO := hk2X.out
                        have hn7XO := hn7X.out
                        have hoXO := hoX.out
                        have hn8XO := hn8X.out
                        have hz : d = false := by
                          rw [HD.out, Bool.eq_false_iff]
                          intro hh
                          simp only [Bool.and_eq_true, Bool.or_eq_true, decide_eq_true_eq, ne_eq] at hh
                          omega
                        clear hqrXO hpkXO hk3XO hn116XO hk2XO hn7XO hoXO hn8XO
                        go_wp2_with fail
                        go_meet
                        case rel => exact ⟨rfl, by rw [hz]; rfl, Lib.hid (by repeat (first | with_reducible exact Below.refl _ _ | with_reducible exact HB9.out | (with_reducible refine Below.alloc ?_ (by simp) _) | (with_reducible refine Below.drew ?_)))⟩
                      · skip
                        have hn81 : ((n : Int) == 0) = false := by rw [beq_eq_false_iff_ne]; omega
                        have hn82 : (n == 0) = false := by rw [beq_eq_false_iff_ne]; omega
                        have hn8X := Lib.hid hn8
                        clear hn8
                        refine takeD (i := 55) (d := some 66) (v := ?_) rfl rfl (by kernel_rfl) (by kernel_rfl) (by kernel_rfl) (fun _ _ _ h => h) (Or.inl ⟨by rfl, ?_⟩) hHeld ?_
                        rotate_left 1
                        focus (intro w hSw; (try dsimp only at hSw); go_simp; (try with_reducible rfl))
                        (repeat (first | simp only [Act.put] | simp only [List.setIfInBounds_toArray] | simp only [List.set_cons_zero] | simp only [List.set_cons_succ]))
                        refine takeD (i := 56) (d := some 67) (v := ?_) rfl rfl (by kernel_rfl) (by kernel_rfl) (by kernel_rfl) (fun _ _ _ h => h) (Or.inl ⟨by rfl, ?_⟩) hHeld ?_
                        rotate_left 1
                        focus (intro w hSw; (try dsimp only at hSw); go_simp; (try with_reducible rfl))
                        (repeat (first | simp only [Act.put] | simp only [List.setIfInBounds_toArray] | simp only [List.set_cons_zero] | simp only [List.set_cons_succ]))
                        refine takeD (i := 57) (d := some 68) (v := ?_) rfl rfl (by kernel_rfl) (by kernel_rfl) (by kernel_rfl) (fun _ _ _ h => h) (Or.inl ⟨by rfl, ?_⟩) hHeld ?_
                        rotate_left 1
                        focus (intro w hSw; (try dsimp only at hSw); go_simp; (try with_reducible rfl))
                        (repeat (first | simp only [Act.put] | simp only [List.setIfInBounds_toArray] | simp only [List.set_cons_zero] | simp only [List.set_cons_succ]))
                        refine wpAnyH_done (by kernel_rfl) ?_ _
                        have hqrXO := hqrX.out
                        have hpkXO := hpkX.out
                        have hk3XO := hk3X.out
                        have hn116XO := hn116X.out
                        have hk2XO := hk2X.out
                        have hn7XO := hn7X.out
                        have hoXO := hoX.out
                        have hn8XO := hn8X.out
                        have hz : d = true := by rw [HD.out]; simp only [Bool.and_eq_true, Bool.or_eq_true, decide_eq_true_eq, ne_eq]; omega
                        clear hqrXO hpkXO hk3XO hn116XO hk2XO hn7XO hoXO hn8XO
                        go_wp2_with fail
                        go_meet
                        case rel => exact ⟨rfl, by rw [hz]; rfl, Lib.hid (by repeat (first | with_reducible exact Below.refl _ _ | with_reducible exact HB9.out | (with_reducible refine Below.alloc ?_ (by simp) _) | (with_reducible refine Below.drew ?_)))⟩
                  · skip
                    have hn71 : ((n : Int) != 116) = true := by rw [bne_iff_ne]; omega
                    have hn72 : (n != 116) = true := by rw [bne_iff_ne]; omega
                    have hn7X := Lib.hid hn7
                    clear hn7
                    refine takeD (i := 44) (d := some 55) (v := ?_) rfl rfl (by kernel_rfl) (by kernel_rfl) (by kernel_rfl) (fun _ _ _ h => h) (Or.inl ⟨by rfl, ?_⟩) hHeld ?_
                    rotate_left 1
                    focus (intro w hSw; (try dsimp only at hSw); go_simp; (try with_reducible rfl))
                    (repeat (first | simp only [Act.put] | simp only [List.setIfInBounds_toArray] | simp only [List.set_cons_zero] | simp only [List.set_cons_succ]))
                    refine takeD (i := 45) (d := some 56) (v := ?_) rfl rfl (by kernel_rfl) (by kernel_rfl) (by kernel_rfl) (fun _ _ _ h => h) (Or.inl ⟨by rfl, ?_⟩) hHeld ?_
                    rotate_left 1
                    focus (intro w hSw; (try dsimp only at hSw); go_simp; (try with_reducible rfl))
                    (repeat (first | simp only [Act.put] | simp only [List.setIfInBounds_toArray] | simp only [List.set_cons_zero] | simp only [List.set_cons_succ]))
                    refine takeD (i := 46) (d := some 57) (v := ?_) rfl rfl (by kernel_rfl) (by kernel_rfl) (by kernel_rfl) (fun _ _ _ h => h) (Or.inl ⟨by rfl, ?_⟩) hHeld ?_
                    rotate_left 1
                    focus (intro w hSw; (try dsimp only at hSw); go_simp; (try with_reducible rfl))
                    (repeat (first | simp only [Act.put] | simp only [List.setIfInBounds_toArray] | simp only [List.set_cons_zero] | simp only [List.set_cons_succ]))
                    refine takeD (i := 47) (d := some 58) (v := ?_) rfl rfl (by kernel_rfl) (by kernel_rfl) (by kernel_rfl) (fun _ _ _ h => h) (Or.inl ⟨by rfl, ?_⟩) hHeld ?_
                    rotate_left 1
                    focus (intro w hSw; (try dsimp only at hSw); go_simp; (try with_reducible rfl))
                    (repeat (first | simp only [Act.put] | simp only [List.setIfInBounds_toArray] | simp only [List.set_cons_zero] | simp only [List.set_cons_succ]))
                    refine takeD (i := 48) (d := some 59) (v := undef) rfl rfl (by kernel_rfl) (by kernel_rfl) (by kernel_rfl) (fun _ _ _ h => h) (Or.inr ⟨by rfl, rfl⟩) hHeld ?_
                    (repeat (first | simp only [Act.put] | simp only [List.setIfInBounds_toArray] | simp only [List.set_cons_zero] | simp only [List.set_cons_succ]))
                    refine takeD (i := 49) (d := some 60) (v := undef) rfl rfl (by kernel_rfl) (by kernel_rfl) (by kernel_rfl) (fun _ _ _ h => h) (Or.inr ⟨by rfl, rfl⟩) hHeld ?_
                    (repeat (first | simp only [Act.put] | simp only [List.setIfInBounds_toArray] | simp only [List.set_cons_zero] | simp only [List.set_cons_succ]))
                    refine takeD (i := 50) (d := some 61) (v := undef) rfl rfl (by kernel_rfl) (by kernel_rfl) (by kernel_rfl) (fun _ _ _ h => h) (Or.inr ⟨by rfl, rfl⟩) hHeld ?_
                    (repeat (first | simp only [Act.put] | simp only [List.setIfInBounds_toArray] | simp only [List.set_cons_zero] | simp only [List.set_cons_succ]))
                    refine takeD (i := 51) (d := some 62) (v := undef) rfl rfl (by kernel_rfl) (by kernel_rfl) (by kernel_rfl) (fun _ _ _ h => h) (Or.inr ⟨by rfl, rfl⟩) hHeld ?_
                    (repeat (first | simp only [Act.put] | simp only [List.setIfInBounds_toArray] | simp only [List.set_cons_zero] | simp only [List.set_cons_succ]))
                    refine takeD (i := 52) (d := some 63) (v := undef) rfl rfl (by kernel_rfl) (by kernel_rfl) (by kernel_rfl) (fun _ _ _ h => h) (Or.inr ⟨by rfl, rfl⟩) hHeld ?_
                    (repeat (first | simp only [Act.put] | simp only [List.setIfInBounds_toArray] | simp only [List.set_cons_zero] | simp only [List.set_cons_succ]))
                    refine takeD (i := 53) (d := some 64) (v := undef) rfl rfl (by kernel_rfl) (by kernel_rfl) (by kernel_rfl) (fun _ _ _ h => h) (Or.inr ⟨by rfl, rfl⟩) hHeld ?_
                    (repeat (first | simp only [Act.put] | simp only [List.setIfInBounds_toArray] | simp only [List.set_cons_zero] | simp only [List.set_cons_succ]))
                    refine takeD (i := 54) (d := some 65) (v := undef) rfl rfl (by kernel_rfl) (by kernel_rfl) (by kernel_rfl) (fun _ _ _ h => h) (Or.inr ⟨by rfl, rfl⟩) hHeld ?_
                    (repeat (first | simp only [Act.put] | simp only [List.setIfInBounds_toArray] | simp only [List.set_cons_zero] | simp only [List.set_cons_succ]))
                    refine takeD (i := 55) (d := some 66) (v := undef) rfl rfl (by kernel_rfl) (by kernel_rfl) (by kernel_rfl) (fun _ _ _ h => h) (Or.inr ⟨by rfl, rfl⟩) hHeld ?_
                    (repeat (first | simp only [Act.put] | simp only [List.setIfInBounds_toArray] | simp only [List.set_cons_zero] | simp only [List.set_cons_succ]))
                    refine takeD (i := 56) (d := some 67) (v := undef) rfl rfl (by kernel_rfl) (by kernel_rfl) (by kernel_rfl) (fun _ _ _ h => h) (Or.inr ⟨by rfl, rfl⟩) hHeld ?_
                    (repeat (first | simp only [Act.put] | simp only [List.setIfInBounds_toArray] | simp only [List.set_cons_zero] | simp only [List.set_cons_succ]))
                    refine takeD (i := 57) (d := some 68) (v := ?_) rfl rfl (by kernel_rfl) (by kernel_rfl) (by kernel_rfl) (fun _ _ _ h => h) (Or.inl ⟨by rfl, ?_⟩) hHeld ?_
                    rotate_left 1
                    focus (intro w hSw; (try dsimp only at hSw); go_simp; (try with_reducible rfl))
                    (repeat (first | simp only [Act.put] | simp only [List.setIfInBounds_toArray] | simp only [List.set_cons_zero] | simp only [List.set_cons_succ]))
                    refine wpAnyH_done (by kernel_rfl) ?_ _
                    have hqrXO := hqrX.out
                    have hpkXO := hpkX.out
                    have hk3XO := hk3X.out
                    have hn116XO := hn116X.out
                    have hk2XO := hk2X.out
                    have hn7XO := hn7X.out
                    have hz : d = false := by
                      rw [HD.out, Bool.eq_false_iff]
                      intro hh
                      simp only [Bool.and_eq_true, Bool.or_eq_true, decide_eq_true_eq, ne_eq] at hh
                      omega
                    clear hqrXO hpkXO hk3XO hn116XO hk2XO hn7XO
                    go_wp2_with fail
                    go_meet
                    case rel => exact ⟨rfl, by rw [hz]; rfl, Lib.hid (by repeat (first | with_reducible exact Below.refl _ _ | with_reducible exact HB9.out | (with_reducible refine Below.alloc ?_ (by simp) _) | (with_reducible refine Below.drew ?_)))⟩
                · skip
                  have hk21 : ¬ (kd : Int) < 2 := by omega
                  have hk22 : decide (kd < 2) = false := decide_eq_false hk2
                  have hk2X := Lib.hid hk2
                  clear hk2
                  refine takeD (i := 41) (d := some 52) (v := ?_) rfl rfl (by kernel_rfl) (by kernel_rfl) (by kernel_rfl) (fun _ _ _ h => h) (Or.inl ⟨by rfl, ?_⟩) hHeld ?_
                  rotate_left 1
                  focus (intro w hSw; (try dsimp only at hSw); go_simp; (try with_reducible rfl))
                  (repeat (first | simp only [Act.put] | simp only [List.setIfInBounds_toArray] | simp only [List.set_cons_zero] | simp only [List.set_cons_succ]))
                  refine takeD (i := 42) (d := some 53) (v := ?_) rfl rfl (by kernel_rfl) (by kernel_rfl) (by kernel_rfl) (fun _ _ _ h => h) (Or.inl ⟨by rfl, ?_⟩) hHeld ?_
                  rotate_left 1
                  focus (intro w hSw; (try dsimp only at hSw); go_simp; (try with_reducible rfl))
                  (repeat (first | simp only [Act.put] | simp only [List.setIfInBounds_toArray] | simp only [List.set_cons_zero] | simp only [List.set_cons_succ]))
                  refine takeD (i := 43) (d := some 54) (v := undef) rfl rfl (by kernel_rfl) (by kernel_rfl) (by kernel_rfl) (fun _ _ _ h => h) (Or.inr ⟨by rfl, rfl⟩) hHeld ?_
                  (repeat (first | simp only [Act.put] | simp only [List.setIfInBounds_toArray] | simp only [List.set_cons_zero] | simp only [List.set_cons_succ]))
                  refine takeD (i := 44) (d := some 55) (v := undef) rfl rfl (by kernel_rfl) (by kernel_rfl) (by kernel_rfl) (fun _ _ _ h => h) (Or.inr ⟨by rfl, rfl⟩) hHeld ?_
                  (repeat (first | simp only [Act.put] | simp only [List.setIfInBounds_toArray] | simp only [List.set_cons_zero] | simp only [List.set_cons_succ]))
                  refine takeD (i := 45) (d := some 56) (v := ?_) rfl rfl (by kernel_rfl) (by kernel_rfl) (by kernel_rfl) (fun _ _ _ h => h) (Or.inl ⟨by rfl, ?_⟩) hHeld ?_
                  rotate_left 1
                  focus (intro w hSw; (try dsimp only at hSw); go_simp; (try with_reducible rfl))
                  (repeat (first | simp only [Act.put] | simp only [List.setIfInBounds_toArray] | simp only [List.set_cons_zero] | simp only [List.set_cons_succ]))
                  refine takeD (i := 46) (d := some 57) (v := ?_) rfl rfl (by kernel_rfl) (by kernel_rfl) (by kernel_rfl) (fun _ _ _ h => h) (Or.inl ⟨by rfl, ?_⟩) hHeld ?_
                  rotate_left 1
                  focus (intro w hSw; (try dsimp only at hSw); go_simp; (try with_reducible rfl))
                  (repeat (first | simp only [Act.put] | simp only [List.setIfInBounds_toArray] | simp only [List.set_cons_zero] | simp only [List.set_cons_succ]))
                  refine takeD (i := 47) (d := some 58) (v := ?_) rfl rfl (by kernel_rfl) (by kernel_rfl) (by kernel_rfl) (fun _ _ _ h => h) (Or.inl ⟨by rfl, ?_⟩) hHeld ?_
                  rotate_left 1
                  focus (intro w hSw; (try dsimp only at hSw); go_simp; (try with_reducible rfl))
                  (repeat (first | simp only [Act.put] | simp only [List.setIfInBounds_toArray] | simp only [List.set_cons_zero] | simp only [List.set_cons_succ]))
                  refine takeD (i := 48) (d := some 59) (v := ?_) rfl rfl (by kernel_rfl) (by kernel_rfl) (by kernel_rfl) (fun _ _ _ h => h) (Or.inl ⟨by rfl, ?_⟩) hHeld ?_
                  rotate_left 1
                  focus (intro w hSw; (try dsimp only at hSw); go_simp; (try with_reducible rfl))
                  (repeat (first | simp only [Act.put] | simp only [List.setIfInBounds_toArray] | simp only [List.set_cons_zero] | simp only [List.set_cons_succ]))
                  refine takeD (i := 49) (d := some 60) (v := ?_) rfl rfl (by kernel_rfl) (by kernel_rfl) (by kernel_rfl) (fun _ _ _ h => h) (Or.inl ⟨by rfl, ?_⟩) hHeld ?_
                  rotate_left 1
                  focus (intro w hSw; (try dsimp only at hSw); go_simp; (try with_reducible rfl))
                  (repeat (first | simp only [Act.put] | simp only [List.setIfInBounds_toArray] | simp only [List.set_cons_zero] | simp only [List.set_cons_succ]))
                  refine takeD (i := 50) (d := some 61) (v := ?_) rfl rfl (by kernel_rfl) (by kernel_rfl) (by kernel_rfl) (fun _ _ _ h => h) (Or.inl ⟨by rfl, ?_⟩) hHeld ?_
                  rotate_left 1
                  focus (intro w hSw; (try dsimp only at hSw); go_simp; (try with_reducible rfl))
                  (repeat (first | simp only [Act.put] | simp only [List.setIfInBounds_toArray] | simp only [List.set_cons_zero] | simp only [List.set_cons_succ]))
                  by_cases ho : kd % 2 = 1
                  · skip
                    have ho0 : (kd : Int).tmod 2 = 1 := by rw [Int.tmod_eq_emod_of_nonneg (by omega)]; omega
                    have ho1 : (kd : Int) % 2 = 1 := by omega
                    have ho2 : ((kd : Int) % 2 == 0) = false := by rw [beq_eq_false_iff_ne]; omega
                    have ho3 : (kd % 2 == 0) = false := by rw [beq_eq_false_iff_ne]; omega
                    have hoX := Lib.hid ho
                    clear ho
                    refine takeD (i := 51) (d := some 62) (v := ?_) rfl rfl (by kernel_rfl) (by kernel_rfl) (by kernel_rfl) (fun _ _ _ h => h) (Or.inl ⟨by rfl, ?_⟩) hHeld ?_
                    rotate_left 1
                    focus (intro w hSw; (try dsimp only at hSw); go_simp; (try with_reducible rfl))
                    (repeat (first | simp only [Act.put] | simp only [List.setIfInBounds_toArray] | simp only [List.set_cons_zero] | simp only [List.set_cons_succ]))
                    refine takeD (i := 52) (d := some 63) (v := ?_) rfl rfl (by kernel_rfl) (by kernel_rfl) (by kernel_rfl) (fun _ _ _ h => h) (Or.inl ⟨by rfl, ?_⟩) hHeld ?_
                    rotate_left 1
                    focus (intro w hSw; (try dsimp only at hSw); go_simp; (try with_reducible rfl))
                    (repeat (first | simp only [Act.put] | simp only [List.setIfInBounds_toArray] | simp only [List.set_cons_zero] | simp only [List.set_cons_succ]))
                    refine takeD (i := 53) (d := some 64) (v := ?_) rfl rfl (by kernel_rfl) (by kernel_rfl) (by kernel_rfl) (fun _ _ _ h => h) (Or.inl ⟨by rfl, ?_⟩) hHeld ?_
                    rotate_left 1
                    focus (intro w hSw; (try dsimp only at hSw); go_simp; (try with_reducible rfl))
                    (repeat (first | simp only [Act.put] | simp only [List.setIfInBounds_toArray] | simp only [List.set_cons_zero] | simp only [List.set_cons_succ]))
                    refine takeD (i := 54) (d := some 65) (v := undef) rfl rfl (by kernel_rfl) (by kernel_rfl) (by kernel_rfl) (fun _ _ _ h => h) (Or.inr ⟨by rfl, rfl⟩) hHeld ?_
                    (repeat (first | simp only [Act.put] | simp only [List.setIfInBounds_toArray] | simp only [List.set_cons_zero] | simp only [List.set_cons_succ]))
                    refine takeD (i := 55) (d := some 66) (v := undef) rfl rfl (by kernel_rfl) (by kernel_rfl) (by kernel_rfl) (fun _ _ _ h => h) (Or.inr ⟨by rfl, rfl⟩) hHeld ?_
                    (repeat (first | simp only [Act.put] | simp only [List.setIfInBounds_toArray] | simp only [List.set_cons_zero] | simp only [List.set_cons_succ]))
                    refine takeD (i := 56) (d := some 67) (v := ?_) rfl rfl (by kernel_rfl) (by kernel_rfl) (by kernel_rfl) (fun _ _ _ h => h) (Or.inl ⟨by rfl, ?_⟩) hHeld ?_
                    rotate_left 1
                    focus (intro w hSw; (try dsimp only at hSw); go_simp; (try with_reducible rfl))
                    (repeat (first | simp only [Act.put] | simp only [List.setIfInBounds_toArray] | simp only [List.set_cons_zero] | simp only [List.set_cons_succ]))
                    refine takeD (i := 57) (d := some 68) (v := ?_) rfl rfl (by kernel_rfl) (by kernel_rfl) (by kernel_rfl) (fun _ _ _ h => h) (Or.inl ⟨by rfl, ?_⟩) hHeld ?_
                    rotate_left 1
                    focus (intro w hSw; (try dsimp only at hSw); go_simp; (try with_reducible rfl))
                    (repeat (first | simp only [Act.put] | simp only [List.setIfInBounds_toArray] | simp only [List.set_cons_zero] | simp only [List.set_cons_succ]))
                    refine wpAnyH_done (by kernel_rfl) ?_ _
                    have hqrXO := hqrX.out
                    have hpkXO := hpkX.out
                    have hk3XO := hk3X.out
                    have hn116XO := hn116X.out
                    have hk2XO := hk2X.out
                    have hoXO := hoX.out
                    have hz : d = true := by rw [HD.out]; simp only [Bool.and_eq_true, Bool.or_eq_true, decide_eq_true_eq, ne_eq]; omega
                    clear hqrXO hpkXO hk3XO hn116XO hk2XO hoXO
                    go_wp2_with fail
                    go_meet
                    case rel => exact ⟨rfl, by rw [hz]; rfl, Lib.hid (by repeat (first | with_reducible exact Below.refl _ _ | with_reducible exact HB9.out | (with_reducible refine Below.alloc ?_ (by simp) _) | (with_reducible refine Below.drew ?_)))⟩
                  · skip
                    have ho0 : (kd : Int).tmod 2 = 0 := by rw [Int.tmod_eq_emod_of_nonneg (by omega)]; omega
                    have ho1 : (kd : Int) % 2 = 0 := by omega
                    have hoX := Lib.hid ho
                    clear ho
                    refine takeD (i := 51) (d := some 62) (v := ?_) rfl rfl (by kernel_rfl) (by kernel_rfl) (by kernel_rfl) (fun _ _ _ h => h) (Or.inl ⟨by rfl, ?_⟩) hHeld ?_
                    rotate_left 1
                    focus (intro w hSw; (try dsimp only at hSw); go_simp; (try with_reducible rfl))
                    (repeat (first | simp only [Act.put] | simp only [List.setIfInBounds_toArray] | simp only [List.set_cons_zero] | simp only [List.set_cons_succ]))
                    refine takeD (i := 52) (d := some 63) (v := ?_) rfl rfl (by kernel_rfl) (by kernel_rfl) (by kernel_rfl) (fun _ _ _ h => h) (Or.inl ⟨by rfl, ?_⟩) hHeld ?_
                    rotate_left 1
                    focus (intro w hSw; (try dsimp only at hSw); go_simp; (try with_reducible rfl))
                    (repeat (first | simp only [Act.put] | simp only [List.setIfInBounds_toArray] | simp only [List.set_cons_zero] | simp only [List.set_cons_succ]))
                    refine takeD (i := 53) (d := some 64) (v := ?_) rfl rfl (by kernel_rfl) (by kernel_rfl) (by kernel_rfl) (fun _ _ _ h => h) (Or.inl ⟨by rfl, ?_⟩) hHeld ?_
                    rotate_left 1
                    focus (intro w hSw; (try dsimp only at hSw); go_simp; (try with_reducible rfl))
                    (repeat (first | simp only [Act.put] | simp only [List.setIfInBounds_toArray] | simp only [List.set_cons_zero] | simp only [List.set_cons_succ]))
                    refine takeD (i := 54) (d := some 65) (v := ?_) rfl rfl (by kernel_rfl) (by kernel_rfl) (by kernel_rfl) (fun _ _ _ h => h) (Or.inl ⟨by rfl, ?_⟩) hHeld ?_
                    rotate_left 1
                    focus (intro w hSw; (try dsimp only at hSw); go_simp; (try with_reducible rfl))
                    (repeat (first | simp only [Act.put] | simp only [List.setIfInBounds_toArray] | simp only [List.set_cons_zero] | simp only [List.set_cons_succ]))
                    by_cases hn8 : n = 0
                    · skip
                      have hn81 : ((n : Int) == 0) = true := by rw [beq_iff_eq]; omega
                      have hn82 : (n == 0) = true := by rw [beq_iff_eq]; omega
                      have hn8X := Lib.hid hn8
                      clear hn8
                      refine takeD (i := 55) (d := some 66) (v := ?_) rfl rfl (by kernel_rfl) (by kernel_rfl) (by kernel_rfl) (fun _ _ _ h => h) (Or.inl ⟨by rfl, ?_⟩) hHeld ?_
                      rotate_left 1
                      focus (intro w hSw; (try dsimp only at hSw); go_simp; (try with_reducible rfl))
                      (repeat (first | simp only [Act.put] | simp only [List.setIfInBounds_toArray] | simp only [List.set_cons_zero] | simp only [List.set_cons_succ]))
                      refine takeD (i := 56) (d := some 67) (v := ?_) rfl rfl (by kernel_rfl) (by kernel_rfl) (by kernel_rfl) (fun _ _ _ h => h) (Or.inl ⟨by rfl, ?_⟩) hHeld ?_
                      rotate_left 1
                      focus (intro w hSw; (try dsimp only at hSw); go_simp; (try with_reducible rfl))
                      (repeat (first | simp only [Act.put] | simp only [List.setIfInBounds_toArray] | simp only [List.set_cons_zero] | simp only [List.set_cons_succ]))
                      refine takeD (i := 57) (d := some 68) (v := ?_) rfl rfl (by kernel_rfl) (by kernel_rfl) (by kernel_rfl) (fun _ _ _ h => h) (Or.inl ⟨by rfl, ?_⟩) hHeld ?_
                      rotate_left 1
                      focus (intro w hSw; (try dsimp only at hSw); go_simp; (try with_reducible rfl))
                      (repeat (first | simp only [Act.put] | simp only [List.setIfInBounds_toArray] | simp only [List.set_cons_zero] | simp only [List.set_cons_succ]))
                      refine wpAnyH_done (by kernel_rfl) ?_ _
                      have hqrXO := hqrX.out
                      have hpkXO := hpkX.out
                      have hk3XO := hk3X.out
                      have hn116XO := hn116X.out
                      have hk2XO := hk2X.out
                      have hoXO := hoX.out
                      have hn8XO := hn8X.out
                      have hz : d = false := by
                        rw [HD.out, Bool.eq_false_iff]
                        intro hh
                        simp only [Bool.and_eq_true, Bool.or_eq_true, decide_eq_true_eq, ne_eq] at hh
                        omega
                      clear hqrXO hpkXO hk3XO hn116XO hk2XO hoXO hn8XO
                      go_wp2_with fail
                      go_meet
                      case rel => exact ⟨rfl, by rw [hz]; rfl, Lib.hid (by repeat (first | with_reducible exact Below.refl _ _ | with_reducible exact HB9.out | (with_reducible refine Below.alloc ?_ (by simp) _) | (with_reducible refine Below.drew ?_)))⟩
                    · skip
                      have hn81 : ((n : Int) == 0) = false := by rw [beq_eq_false_iff_ne]; omega
                      have hn82 : (n == 0) = false := by rw [beq_eq_false_iff_ne]; omega
                      have hn8X := Lib.hid hn8
                      clear hn8
                      refine takeD (i := 55) (d := some 66) (v := ?_) rfl rfl (by kernel_rfl) (by kernel_rfl) (by kernel_rfl) (fun _ _ _ h => h) (Or.inl ⟨by rfl, ?_⟩) hHeld ?_
                      rotate_left 1
                      focus (intro w hSw; (try dsimp only at hSw); go_simp; (try with_reducible rfl))
                      (repeat (first | simp only [Act.put] | simp only [List.setIfInBounds_toArray] | simp only [List.set_cons_zero] | simp only [List.set_cons_succ]))
                      refine takeD (i := 56) (d := some 67) (v := ?_) rfl rfl (by kernel_rfl) (by kernel_rfl) (by kernel_rfl) (fun _ _ _ h => h) (Or.inl ⟨by rfl, ?_⟩) hHeld ?_
                      rotate_left 1
                      focus (intro w hSw; (try dsimp only at hSw); go_simp; (try with_reducible rfl))
                      (repeat (first | simp only [Act.put] | simp only [List.setIfInBounds_toArray] | simp only [List.set_cons_zero] | simp only [List.set_cons_succ]))
                      refine takeD (i := 57) (d := some 68) (v := ?_) rfl rfl (by kernel_rfl) (by kernel_rfl) (by kernel_rfl) (fun _ _ _ h => h) (Or.inl ⟨by rfl, ?_⟩) hHeld ?_
                      rotate_left 1
                      focus (intro w hSw; (try dsimp only at hSw); go_simp; (try with_reducible rfl))
                      (repeat (first | simp only [Act.put] | simp only [List.setIfInBounds_toArray] | simp only [List.set_cons_zero] | simp only [List.set_cons_succ]))
                      refine wpAnyH_done (by kernel_rfl) ?_ _
                      have hqrXO := hqrX.out
                      have hpkXO := hpkX.out
                      have hk3XO := hk3X.out
                      have hn116XO := hn116X.out
                      have hk2XO := hk2X.out
                      have hoXO := hoX.out
                      have hn8XO := hn8X.out
                      have hz : d = true := by rw [HD.out]; simp only [Bool.and_eq_true, Bool.or_eq_true, decide_eq_true_eq, ne_eq]; omega
                      clear hqrXO hpkXO hk3XO hn116XO hk2XO hoXO hn8XO
                      go_wp2_with fail
                      go_meet
                      case rel => exact ⟨rfl, by rw [hz]; rfl, Lib.hid (by repeat (first | with_reducible exact Below.refl _ _ | with_reducible exact HB9.out | (with_reducible refine Below.alloc ?_ (by simp) _) | (with_reducible refine Below.drew ?_)))⟩
          · skip
            have hpk1 : ((p : Int) != (k : Int)) = true := by rw [bne_iff_ne]; omega
            have hpkX := Lib.hid hpk
            clear hpk
            refine takeD (i := 25) (d := some 36) (v := ?_) rfl rfl (by kernel_rfl) (by kernel_rfl) (by kernel_rfl) (fun _ _ _ h => h) (Or.inl ⟨by rfl, ?_⟩) hHeld ?_
            rotate_left 1
            focus (intro w hSw; (try dsimp only at hSw); go_simp; (try with_reducible rfl))
            (repeat (first | simp only [Act.put] | simp only [List.setIfInBounds_toArray] | simp only [List.set_cons_zero] | simp only [List.set_cons_succ]))
            refine takeD (i := 26) (d := some 37) (v := ?_) rfl rfl (by kernel_rfl) (by kernel_rfl) (by kernel_rfl) (fun _ _ _ h => h) (Or.inl ⟨by rfl, ?_⟩) hHeld ?_
            rotate_left 1
            focus (intro w hSw; (try dsimp only at hSw); go_simp; (try with_reducible rfl))
            (repeat (first | simp only [Act.put] | simp only [List.setIfInBounds_toArray] | simp only [List.set_cons_zero] | simp only [List.set_cons_succ]))
            refine takeD (i := 27) (d := some 38) (v := ?_) rfl rfl (by kernel_rfl) (by kernel_rfl) (by kernel_rfl) (fun _ _ _ h => h) (Or.inl ⟨by rfl, ?_⟩) hHeld ?_
            rotate_left 1
            focus (intro w hSw; (try dsimp only at hSw); go_simp; (try with_reducible rfl))
            (repeat (first | simp only [Act.put] | simp only [List.setIfInBounds_toArray] | simp only [List.set_cons_zero] | simp only [List.set_cons_succ]))
            refine takeD (i := 28) (d := some 39) (v := undef) rfl rfl (by kernel_rfl) (by kernel_rfl) (by kernel_rfl) (fun _ _ _ h => h) (Or.inr ⟨by rfl, rfl⟩) hHeld ?_
            (repeat (first | simp only [Act.put] | simp only [List.setIfInBounds_toArray] | simp only [List.set_cons_zero] | simp only [List.set_cons_succ]))
            refine takeD (i := 29) (d := some 40) (v := undef) rfl rfl (by kernel_rfl) (by kernel_rfl) (by kernel_rfl) (fun _ _ _ h => h) (Or.inr ⟨by rfl, rfl⟩) hHeld ?_
            (repeat (first | simp only [Act.put] | simp only [List.setIfInBounds_toArray] | simp only [List.set_cons_zero] | simp only [List.set_cons_succ]))
            refine takeD (i := 30) (d := some 41) (v := undef) rfl rfl (by kernel_rfl) (by kernel_rfl) (by kernel_rfl) (fun _ _ _ h => h) (Or.inr ⟨by rfl, rfl⟩) hHeld ?_
            (repeat (first | simp only [Act.put] | simp only [List.setIfInBounds_toArray] | simp only [List.set_cons_zero] | simp only [List.set_cons_succ]))
            refine takeD (i := 31) (d := some 42) (v := undef) rfl rfl (by kernel_rfl) (by kernel_rfl) (by kernel_rfl) (fun _ _ _ h => h) (Or.inr ⟨by rfl, rfl⟩) hHeld ?_
            (repeat (first | simp only [Act.put] | simp only [List.setIfInBounds_toArray] | simp only [List.set_cons_zero] | simp only [List.set_cons_succ]))
            refine takeD (i := 32) (d := some 43) (v := ?_) rfl rfl (by kernel_rfl) (by kernel_rfl) (by kernel_rfl) (fun _ _ _ h => h) (Or.inl ⟨by rfl, ?_⟩) hHeld ?_
            rotate_left 1
            focus (intro w hSw; (try dsimp only at hSw); go_simp; (try with_reducible rfl))
            (repeat (first | simp only [Act.put] | simp only [List.setIfInBounds_toArray] | simp only [List.set_cons_zero] | simp only [List.set_cons_succ]))
            refine takeD (i := 33) (d := some 44) (v := ?_) rfl rfl (by kernel_rfl) (by kernel_rfl) (by kernel_rfl) (fun _ _ _ h => h) (Or.inl ⟨by rfl, ?_⟩) hHeld ?_
            rotate_left 1
            focus (intro w hSw; (try dsimp only at hSw); go_simp; (try with_reducible rfl))
            (repeat (first | simp only [Act.put] | simp only [List.setIfInBounds_toArray] | simp only [List.set_cons_zero] | simp only [List.set_cons_succ]))
            refine takeD (i := 34) (d := some 45) (v := undef) rfl rfl (by kernel_rfl) (by kernel_rfl) (by kernel_rfl) (fun _ _ _ h => h) (Or.inr ⟨by rfl, rfl⟩) hHeld ?_
            (repeat (first | simp only [Act.put] | simp only [List.setIfInBounds_toArray] | simp only [List.set_cons_zero] | simp only [List.set_cons_succ]))
            refine takeD (i := 35) (d := some 46) (v := undef) rfl rfl (by kernel_rfl) (by kernel_rfl) (by kernel_rfl) (fun _ _ _ h => h) (Or.inr ⟨by rfl, rfl⟩) hHeld ?_
            (repeat (first | simp only [Act.put] | simp only [List.setIfInBounds_toArray] | simp only [List.set_cons_zero] | simp only [List.set_cons_succ]))
            refine takeD (i := 36) (d := some 47) (v := ?_) rfl rfl (by kernel_rfl) (by kernel_rfl) (by kernel_rfl) (fun _ _ _ h => h) (Or.inl ⟨by rfl, ?_⟩) hHeld ?_
            rotate_left 1
            focus (intro w hSw; (try dsimp only at hSw); go_simp; (try with_reducible rfl))
            (repeat (first | simp only [Act.put] | simp only [List.setIfInBounds_toArray] | simp only [List.set_cons_zero] | simp only [List.set_cons_succ]))
            refine takeD (i := 37) (d := some 48) (v := ?_) rfl rfl (by kernel_rfl) (by kernel_rfl) (by kernel_rfl) (fun _ _ _ h => h) (Or.inl ⟨by rfl, ?_⟩) hHeld ?_
            rotate_left 1
            focus (intro w hSw; (try dsimp only at hSw); go_simp; (try with_reducible rfl))
            (repeat (first | simp only [Act.put] | simp only [List.setIfInBounds_toArray] | simp only [List.set_cons_zero] | simp only [List.set_cons_succ]))
            refine takeD (i := 38) (d := some 49) (v := undef) rfl rfl (by kernel_rfl) (by kernel_rfl) (by kernel_rfl) (fun _ _ _ h => h) (Or.inr ⟨by rfl, rfl⟩) hHeld ?_
            (repeat (first | simp only [Act.put] | simp only [List.setIfInBounds_toArray] | simp only [List.set_cons_zero] | simp only [List.set_cons_succ]))
            refine takeD (i := 39) (d := some 50) (v := undef) rfl rfl (by kernel_rfl) (by kernel_rfl) (by kernel_rfl) (fun _ _ _ h => h) (Or.inr ⟨by rfl, rfl⟩) hHeld ?_
            (repeat (first | simp only [Act.put] | simp only [List.setIfInBounds_toArray] | simp only [List.set_cons_zero] | simp only [List.set_cons_succ]))
            refine takeD (i := 40) (d := some 51) (v := undef) rfl rfl (by kernel_rfl) (by kernel_rfl) (by kernel_rfl) (fun _ _ _ h => h) (Or.inr ⟨by rfl, rfl⟩) hHeld ?_
            (repeat (first | simp only [Act.put] | simp only [List.setIfInBounds_toArray] | simp only [List.set_cons_zero] | simp only [List.set_cons_succ]))
            refine takeD (i := 41) (d := some 52) (v := undef) rfl rfl (by kernel_rfl) (by kernel_rfl) (by kernel_rfl) (fun _ _ _ h => h) (Or.inr ⟨by rfl, rfl⟩) hHeld ?_
            (repeat (first | simp only [Act.put] | simp only [List.setIfInBounds_toArray] | simp only [List.set_cons_zero] | simp only [List.set_cons_succ]))
            refine takeD (i := 42) (d := some 53) (v := undef) rfl rfl (by kernel_rfl) (by kernel_rfl) (by kernel_rfl) (fun _ _ _ h => h) (Or.inr ⟨by rfl, rfl⟩) hHeld ?_
            (repeat (first | simp only [Act.put] | simp only [List.setIfInBounds_toArray] | simp only [List.set_cons_zero] | simp only [List.set_cons_succ]))
            refine takeD (i := 43) (d := some 54) (v := undef) rfl rfl (by kernel_rfl) (by kernel_rfl) (by kernel_rfl) (fun _ _ _ h => h) (Or.inr ⟨by rfl, rfl⟩) hHeld ?_
            (repeat (first | simp only [Act.put] | simp only [List.setIfInBounds_toArray] | simp only [List.set_cons_zero] | simp only [List.set_cons_succ]))
            refine takeD (i := 44) (d := some 55) (v := undef) rfl rfl (by kernel_rfl) (by kernel_rfl) (by kernel_rfl) (fun _ _ _ h => h) (Or.inr ⟨by rfl, rfl⟩) hHeld ?_
            (repeat (first | simp only [Act.put] | simp only [List.setIfInBounds_toArray] | simp only [List.set_cons_zero] | simp only [List.set_cons_succ]))
            refine takeD (i := 45) (d := some 56) (v := undef) rfl rfl (by kernel_rfl) (by kernel_rfl) (by kernel_rfl) (fun _ _ _ h => h) (Or.inr ⟨by rfl, rfl⟩) hHeld ?_
            (repeat (first | simp only [Act.put] | simp only [List.setIfInBounds_toArray] | simp only [List.set_cons_zero] | simp only [List.set_cons_succ]))
            refine takeD (i := 46) (d := some 57) (v := ?_) rfl rfl (by kernel_rfl) (by kernel_rfl) (by kernel_rfl) (fun _ _ _ h => h) (Or.inl ⟨by rfl, ?_⟩) hHeld ?_
            rotate_left 1
            focus (intro w hSw; (try dsimp only at hSw); go_simp; (try with_reducible rfl))
            (repeat (first | simp only [Act.put] | simp only [List.setIfInBounds_toArray] | simp only [List.set_cons_zero] | simp only [List.set_cons_succ]))
            refine takeD (i := 47) (d := some 58) (v := ?_) rfl rfl (by kernel_rfl) (by kernel_rfl) (by kernel_rfl) (fun _ _ _ h => h) (Or.inl ⟨by rfl, ?_⟩) hHeld ?_
            rotate_left 1
            focus (intro w hSw; (try dsimp only at hSw); go_simp; (try with_reducible rfl))
            (repeat (first | simp only [Act.put] | simp only [List.setIfInBounds_toArray] | simp only [List.set_cons_zero] | simp only [List.set_cons_succ]))
            refine takeD (i := 48) (d := some 59) (v := undef) rfl rfl (by kernel_rfl) (by kernel_rfl) (by kernel_rfl) (fun _ _ _ h => h) (Or.inr ⟨by rfl, rfl⟩) hHeld ?_
            (repeat (first | simp only [Act.put] | simp only [List.setIfInBounds_toArray] | simp only [List.set_cons_zero] | simp only [List.set_cons_succ]))
            refine takeD (i := 49) (d := some 60) (v := undef) rfl rfl (by kernel_rfl) (by kernel_rfl) (by kernel_rfl) (fun _ _ _ h => h) (Or.inr ⟨by rfl, rfl⟩) hHeld ?_
            (repeat (first | simp only [Act.put] | simp only [List.setIfInBounds_toArray] | simp only [List.set_cons_zero] | simp only [List.set_cons_succ]))
            refine takeD (i := 50) (d := some 61) (v := undef) rfl rfl (by kernel_rfl) (by kernel_rfl) (by kernel_rfl) (fun _ _ _ h => h) (Or.inr ⟨by rfl, rfl⟩) hHeld ?_
            (repeat (first | simp only [Act.put] | simp only [List.setIfInBounds_toArray] | simp only [List.set_cons_zero] | simp only [List.set_cons_succ]))
            refine takeD (i := 51) (d := some 62) (v := undef) rfl rfl (by kernel_rfl) (by kernel_rfl) (by kernel_rfl) (fun _ _ _ h => h) (Or.inr ⟨by rfl, rfl⟩) hHeld ?_
            (repeat (first | simp only [Act.put] | simp only [List.setIfInBounds_toArray] | simp only [List.set_cons_zero] | simp only [List.set_cons_succ]))
            refine takeD (i := 52) (d := some 63) (v := undef) rfl rfl (by kernel_rfl) (by kernel_rfl) (by kernel_rfl) (fun _ _ _ h => h) (Or.inr ⟨by rfl, rfl⟩) hHeld ?_
            (repeat (first | simp only [Act.put] | simp only [List.setIfInBounds_toArray] | simp only [List.set_cons_zero] | simp only [List.set_cons_succ]))
            refine takeD (i := 53) (d := some 64) (v := undef) rfl rfl (by kernel_rfl) (by kernel_rfl) (by kernel_rfl) (fun _ _ _ h => h) (Or.inr ⟨by rfl, rfl⟩) hHeld ?_
            (repeat (first | simp only [Act.put] | simp only [List.setIfInBounds_toArray] | simp only [List.set_cons_zero] | simp only [List.set_cons_succ]))
            refine takeD (i := 54) (d := some 65) (v := undef) rfl rfl (by kernel_rfl) (by kernel_rfl) (by kernel_rfl) (fun _ _ _ h => h) (Or.inr ⟨by rfl, rfl⟩) hHeld ?_
            (repeat (first | simp only [Act.put] | simp only [List.setIfInBounds_toArray] | simp only [List.set_cons_zero] | simp only [List.set_cons_succ]))
            refine takeD (i := 55) (d := some 66) (v := undef) rfl rfl (by kernel_rfl) (by kernel_rfl) (by kernel_rfl) (fun _ _ _ h => h) (Or.inr ⟨by rfl, rfl⟩) hHeld ?_
            (repeat (first | simp only [Act.put] | simp only [List.setIfInBounds_toArray] | simp only [List.set_cons_zero] | simp only [List.set_cons_succ]))
            refine takeD (i := 56) (d := some 67) (v := undef) rfl rfl (by kernel_rfl) (by kernel_rfl) (by kernel_rfl) (fun _ _ _ h => h) (Or.inr ⟨by rfl, rfl⟩) hHeld ?_
            (repeat (first | simp only [Act.put] | simp only [List.setIfInBounds_toArray] | simp only [List.set_cons_zero] | simp only [List.set_cons_succ]))
            refine takeD (i := 57) (d := some 68) (v := ?_) rfl rfl (by kernel_rfl) (by kernel_rfl) (by kernel_rfl) (fun _ _ _ h => h) (Or.inl ⟨by rfl, ?_⟩) hHeld ?_
            rotate_left 1
            focus (intro w hSw; (try dsimp only at hSw); go_simp; (try with_reducible rfl))
            (repeat (first | simp only [Act.put] | simp only [List.setIfInBounds_toArray] | simp only [List.set_cons_zero] | simp only [List.set_cons_succ]))
            refine wpAnyH_done (by kernel_rfl) ?_ _
            have hqrXO := hqrX.out
            have hpkXO := hpkX.out
            have hz : d = false := by
              rw [HD.out, Bool.eq_false_iff]
              intro hh
              simp only [Bool.and_eq_true, Bool.or_eq_true, decide_eq_true_eq, ne_eq] at hh
              omega
            clear hqrXO hpkXO
            go_wp2_with fail
            go_meet
            case rel => exact ⟨rfl, by rw [hz]; rfl, Lib.hid (by repeat (first | with_reducible exact Below.refl _ _ | with_reducible exact HB9.out | (with_reducible refine Below.alloc ?_ (by simp) _) | (with_reducible refine Below.drew ?_)))⟩
        · skip
          have hqr1 : ((q : Int) != (r : Int)) = true := by rw [bne_iff_ne]; omega
          have hqrX := Lib.hid hqr
          clear hqr
          refine takeD (i := 17) (d := some 28) (v := ?_) rfl rfl (by kernel_rfl) (by kernel_rfl) (by kernel_rfl) (fun _ _ _ h => h) (Or.inl ⟨by rfl, ?_⟩) hHeld ?_
          rotate_left 1
          focus (intro w hSw; (try dsimp only at hSw); go_simp; (try with_reducible rfl))
          (repeat (first | simp only [Act.put] | simp only [List.setIfInBounds_toArray] | simp only [List.set_cons_zero] | simp only [List.set_cons_succ]))
          refine takeD (i := 18) (d := some 29) (v := ?_) rfl rfl (by kernel_rfl) (by kernel_rfl) (by kernel_rfl) (fun _ _ _ h => h) (Or.inl ⟨by rfl, ?_⟩) hHeld ?_
          rotate_left 1
          focus (intro w hSw; (try dsimp only at hSw); go_simp; (try with_reducible rfl))
          (repeat (first | simp only [Act.put] | simp only [List.setIfInBounds_toArray] | simp only [List.set_cons_zero] | simp only [List.set_cons_succ]))
          refine takeD (i := 19) (d := some 30) (v := ?_) rfl rfl (by kernel_rfl) (by kernel_rfl) (by kernel_rfl) (fun _ _ _ h => h) (Or.inl ⟨by rfl, ?_⟩) hHeld ?_
          rotate_left 1
          focus (intro w hSw; (try dsimp only at hSw); go_simp; (try with_reducible rfl))
          (repeat (first | simp only [Act.put] | simp only [List.setIfInBounds_toArray] | simp only [List.set_cons_zero] | simp only [List.set_cons_succ]))
          refine takeD (i := 20) (d := some 31) (v := undef) rfl rfl (by kernel_rfl) (by kernel_rfl) (by kernel_rfl) (fun _ _ _ h => h) (Or.inr ⟨by rfl, rfl⟩) hHeld ?_
          (repeat (first | simp only [Act.put] | simp only [List.setIfInBounds_toArray] | simp only [List.set_cons_zero] | simp only [List.set_cons_succ]))
          refine takeD (i := 21) (d := some 32) (v := undef) rfl rfl (by kernel_rfl) (by kernel_rfl) (by kernel_rfl) (fun _ _ _ h => h) (Or.inr ⟨by rfl, rfl⟩) hHeld ?_
          (repeat (first | simp only [Act.put] | simp only [List.setIfInBounds_toArray] | simp only [List.set_cons_zero] | simp only [List.set_cons_succ]))
          refine takeD (i := 22) (d := some 33) (v := undef) rfl rfl (by kernel_rfl) (by kernel_rfl) (by kernel_rfl) (fun _ _ _ h => h) (Or.inr ⟨by rfl, rfl⟩) hHeld ?_
          (repeat (first | simp only [Act.put] | simp only [List.setIfInBounds_toArray] | simp only [List.set_cons_zero] | simp only [List.set_cons_succ]))
          refine takeD (i := 23) (d := some 34) (v := undef) rfl rfl (by kernel_rfl) (by kernel_rfl) (by kernel_rfl) (fun _ _ _ h => h) (Or.inr ⟨by rfl, rfl⟩) hHeld ?_
          (repeat (first | simp only [Act.put] | simp only [List.setIfInBounds_toArray] | simp only [List.set_cons_zero] | simp only [List.set_cons_succ]))
          refine takeD (i := 24) (d := some 35) (v := undef) rfl rfl (by kernel_rfl) (by kernel_rfl) (by kernel_rfl) (fun _ _ _ h => h) (Or.inr ⟨by rfl, rfl⟩) hHeld ?_
          (repeat (first | simp only [Act.put] | simp only [List.setIfInBounds_toArray] | simp only [List.set_cons_zero] | simp only [List.set_cons_succ]))
          refine takeD (i := 25) (d := some 36) (v := undef) rfl rfl (by kernel_rfl) (by kernel_rfl) (by kernel_rfl) (fun _ _ _ h => h) (Or.inr ⟨by rfl, rfl⟩) hHeld ?_
          (repeat (first | simp only [Act.put] | simp only [List.setIfInBounds_toArray] | simp only [List.set_cons_zero] | simp only [List.set_cons_succ]))
          refine takeD (i := 26) (d := some 37) (v := ?_) rfl rfl (by kernel_rfl) (by kernel_rfl) (by kernel_rfl) (fun _ _ _ h => h) (Or.inl ⟨by rfl, ?_⟩) hHeld ?_
          rotate_left 1
          focus (intro w hSw; (try dsimp only at hSw); go_simp; (try with_reducible rfl))
          (repeat (first | simp only [Act.put] | simp only [List.setIfInBounds_toArray] | simp only [List.set_cons_zero] | simp only [List.set_cons_succ]))
          refine takeD (i := 27) (d := some 38) (v := ?_) rfl rfl (by kernel_rfl) (by kernel_rfl) (by kernel_rfl) (fun _ _ _ h => h) (Or.inl ⟨by rfl, ?_⟩) hHeld ?_
          rotate_left 1
          focus (intro w hSw; (try dsimp only at hSw); go_simp; (try with_reducible rfl))
          (repeat (first | simp only [Act.put] | simp only [List.setIfInBounds_toArray] | simp only [List.set_cons_zero] | simp only [List.set_cons_succ]))
          refine takeD (i := 28) (d := some 39) (v := undef) rfl rfl (by kernel_rfl) (by kernel_rfl) (by kernel_rfl) (fun _ _ _ h => h) (Or.inr ⟨by rfl, rfl⟩) hHeld ?_
          (repeat (first | simp only [Act.put] | simp only [List.setIfInBounds_toArray] | simp only [List.set_cons_zero] | simp only [List.set_cons_succ]))
          refine takeD (i := 29) (d := some 40) (v := undef) rfl rfl (by kernel_rfl) (by kernel_rfl) (by kernel_rfl) (fun _ _ _ h => h) (Or.inr ⟨by rfl, rfl⟩) hHeld ?_
          (repeat (first | simp only [Act.put] | simp only [List.setIfInBounds_toArray] | simp only [List.set_cons_zero] | simp only [List.set_cons_succ]))
          refine takeD (i := 30) (d := some 41) (v := undef) rfl rfl (by kernel_rfl) (by kernel_rfl) (by kernel_rfl) (fun _ _ _ h => h) (Or.inr ⟨by rfl, rfl⟩) hHeld ?_
          (repeat (first | simp only [Act.put] | simp only [List.setIfInBounds_toArray] | simp only [List.set_cons_zero] | simp only [List.set_cons_succ]))
          refine takeD (i := 31) (d := some 42) (v := undef) rfl rfl (by kernel_rfl) (by kernel_rfl) (by kernel_rfl) (fun _ _ _ h => h) (Or.inr ⟨by rfl, rfl⟩) hHeld ?_
          (repeat (first | simp only [Act.put] | simp only [List.setIfInBounds_toArray] | simp only [List.set_cons_zero] | simp only [List.set_cons_succ]))
          refine takeD (i := 32) (d := some 43) (v := ?_) rfl rfl (by kernel_rfl) (by kernel_rfl) (by kernel_rfl) (fun _ _ _ h => h) (Or.inl ⟨by rfl, ?_⟩) hHeld ?_
          rotate_left 1
          focus (intro w hSw; (try dsimp only at hSw); go_simp; (try with_reducible rfl))
          (repeat (first | simp only [Act.put] | simp only [List.setIfInBounds_toArray] | simp only [List.set_cons_zero] | simp only [List.set_cons_succ]))
          refine takeD (i := 33) (d := some 44) (v := ?_) rfl rfl (by kernel_rfl) (by kernel_rfl) (by kernel_rfl) (fun _ _ _ h => h) (Or.inl ⟨by rfl, ?_⟩) hHeld ?_
          rotate_left 1
          focus (intro w hSw; (try dsimp only at hSw); go_simp; (try with_reducible rfl))
          (repeat (first | simp only [Act.put] | simp only [List.setIfInBounds_toArray] | simp only [List.set_cons_zero] | simp only [List.set_cons_succ]))
          refine takeD (i := 34) (d := some 45) (v := undef) rfl rfl (by kernel_rfl) (by kernel_rfl) (by kernel_rfl) (fun _ _ _ h => h) (Or.inr ⟨by rfl, rfl⟩) hHeld ?_
          (repeat (first | simp only [Act.put] | simp only [List.setIfInBounds_toArray] | simp only [List.set_cons_zero] | simp only [List.set_cons_succ]))
          refine takeD (i := 35) (d := some 46) (v := undef) rfl rfl (by kernel_rfl) (by kernel_rfl) (by kernel_rfl) (fun _ _ _ h => h) (Or.inr ⟨by rfl, rfl⟩) hHeld ?_
          (repeat (first | simp only [Act.put] | simp only [List.setIfInBounds_toArray] | simp only [List.set_cons_zero] | simp only [List.set_cons_succ]))
          refine takeD (i := 36) (d := some 47) (v := ?_) rfl rfl (by kernel_rfl) (by kernel_rfl) (by kernel_rfl) (fun _ _ _ h => h) (Or.inl ⟨by rfl, ?_⟩) hHeld ?_
          rotate_left 1
          focus (intro w hSw; (try dsimp only at hSw); go_simp; (try with_reducible rfl))
          (repeat (first | simp only [Act.put] | simp only [List.setIfInBounds_toArray] | simp only [List.set_cons_zero] | simp only [List.set_cons_succ]))
          refine takeD (i := 37) (d := some 48) (v := ?_) rfl rfl (by kernel_rfl) (by kernel_rfl) (by kernel_rfl) (fun _ _ _ h => h) (Or.inl ⟨by rfl, ?_⟩) hHeld ?_
          rotate_left 1
          focus (intro w hSw; (try dsimp only at hSw); go_simp; (try with_reducible rfl))
          (repeat (first | simp only [Act.put] | simp only [List.setIfInBounds_toArray] | simp only [List.set_cons_zero] | simp only [List.set_cons_succ]))
          refine takeD (i := 38) (d := some 49) (v := undef) rfl rfl (by kernel_rfl) (by kernel_rfl) (by kernel_rfl) (fun _ _ _ h => h) (Or.inr ⟨by rfl, rfl⟩) hHeld ?_
          (repeat (first | simp only [Act.put] | simp only [List.setIfInBounds_toArray] | simp only [List.set_cons_zero] | simp only [List.set_cons_succ]))
          refine takeD (i := 39) (d := some 50) (v := undef) rfl rfl (by kernel_rfl) (by kernel_rfl) (by kernel_rfl) (fun _ _ _ h => h) (Or.inr ⟨by rfl, rfl⟩) hHeld ?_
          (repeat (first | simp only [Act.put] | simp only [List.setIfInBounds_toArray] | simp only [List.set_cons_zero] | simp only [List.set_cons_succ]))
          refine takeD (i := 40) (d := some 51) (v := undef) rfl rfl (by kernel_rfl) (by kernel_rfl) (by kernel_rfl) (fun _ _ _ h => h) (Or.inr ⟨by rfl, rfl⟩) hHeld ?_
          (repeat (first | simp only [Act.put] | simp only [List.setIfInBounds_toArray] | simp only [List.set_cons_zero] | simp only [List.set_cons_succ]))
          refine takeD (i := 41) (d := some 52) (v := undef) rfl rfl (by kernel_rfl) (by kernel_rfl) (by kernel_rfl) (fun _ _ _ h => h) (Or.inr ⟨by rfl, rfl⟩) hHeld ?_
          (repeat (first | simp only [Act.put] | simp only [List.setIfInBounds_toArray] | simp only [List.set_cons_zero] | simp only [List.set_cons_succ]))
          refine takeD (i := 42) (d := some 53) (v := undef) rfl rfl (by kernel_rfl) (by kernel_rfl) (by kernel_rfl) (fun _ _ _ h => h) (Or.inr ⟨by rfl, rfl⟩) hHeld ?_
          (repeat (first | simp only [Act.put] | simp only [List.setIfInBounds_toArray] | simp only [List.set_cons_zero] | simp only [List.set_cons_succ]))
          refine takeD (i := 43) (d := some 54) (v := undef) rfl rfl (by kernel_rfl) (by kernel_rfl) (by kernel_rfl) (fun _ _ _ h => h) (Or.inr ⟨by rfl, rfl⟩) hHeld ?_
          (repeat (first | simp only [Act.put] | simp only [List.setIfInBounds_toArray] | simp only [List.set_cons_zero] | simp only [List.set_cons_succ]))
          refine takeD (i := 44) (d := some 55) (v := undef) rfl rfl (by kernel_rfl) (by kernel_rfl) (by kernel_rfl) (fun _ _ _ h => h) (Or.inr ⟨by rfl, rfl⟩) hHeld ?_
          (repeat (first | simp only [Act.put] | simp only [List.setIfInBounds_toArray] | simp only [List.set_cons_zero] | simp only [List.set_cons_succ]))
          refine takeD (i := 45) (d := some 56) (v := undef) rfl rfl (by kernel_rfl) (by kernel_rfl) (by kernel_rfl) (fun _ _ _ h => h) (Or.inr ⟨by rfl, rfl⟩) hHeld ?_
          (repeat (first | simp only [Act.put] | simp only [List.setIfInBounds_toArray] | simp only [List.set_cons_zero] | simp only [List.set_cons_succ]))
          refine takeD (i := 46) (d := some 57) (v := ?_) rfl rfl (by kernel_rfl) (by kernel_rfl) (by kernel_rfl) (fun _ _ _ h => h) (Or.inl ⟨by rfl, ?_⟩) hHeld ?_
          rotate_left 1
          focus (intro w hSw; (try dsimp only at hSw); go_simp; (try with_reducible rfl))
          (repeat (first | simp only [Act.put] | simp only [List.setIfInBounds_toArray] | simp only [List.set_cons_zero] | simp only [List.set_cons_succ]))
          refine takeD (i := 47) (d := some 58) (v := ?_) rfl rfl (by kernel_rfl) (by kernel_rfl) (by kernel_rfl) (fun _ _ _ h => h) (Or.inl ⟨by rfl, ?_⟩) hHeld ?_
          rotate_left 1
          focus (intro w hSw; (try dsimp only at hSw); go_simp; (try with_reducible rfl))
          (repeat (first | simp only [Act.put] | simp only [List.setIfInBounds_toArray] | simp only [List.set_cons_zero] | simp only [List.set_cons_succ]))
          refine takeD (i := 48) (d := some 59) (v := undef) rfl rfl (by kernel_rfl) (by kernel_rfl) (by kernel_rfl) (fun _ _ _ h => h) (Or.inr ⟨by rfl, rfl⟩) hHeld ?_
          (repeat (first | simp only [Act.put] | simp only [List.setIfInBounds_toArray] | simp only [List.set_cons_zero] | simp only [List.set_cons_succ]))
          refine takeD (i := 49) (d := some 60) (v := undef) rfl rfl (by kernel_rfl) (by kernel_rfl) (by kernel_rfl) (fun _ _ _ h => h) (Or.inr ⟨by rfl, rfl⟩) hHeld ?_
          (repeat (first | simp only [Act.put] | simp only [List.setIfInBounds_toArray] | simp only [List.set_cons_zero] | simp only [List.set_cons_succ]))
          refine takeD (i := 50) (d := some 61) (v := undef) rfl rfl (by kernel_rfl) (by kernel_rfl) (by kernel_rfl) (fun _ _ _ h => h) (Or.inr ⟨by rfl, rfl⟩) hHeld ?_
          (repeat (first | simp only [Act.put] | simp only [List.setIfInBounds_toArray] | simp only [List.set_cons_zero] | simp only [List.set_cons_succ]))
          refine takeD (i := 51) (d := some 62) (v := undef) rfl rfl (by kernel_rfl) (by kernel_rfl) (by kernel_rfl) (fun _ _ _ h => h) (Or.inr ⟨by rfl, rfl⟩) hHeld ?_
          (repeat (first | simp only [Act.put] | simp only [List.setIfInBounds_toArray] | simp only [List.set_cons_zero] | simp only [List.set_cons_succ]))
          refine takeD (i := 52) (d := some 63) (v := undef) rfl rfl (by kernel_rfl) (by kernel_rfl) (by kernel_rfl) (fun _ _ _ h => h) (Or.inr ⟨by rfl, rfl⟩) hHeld ?_
          (repeat (first | simp only [Act.put] | simp only [List.setIfInBounds_toArray] | simp only [List.set_cons_zero] | simp only [List.set_cons_succ]))
          refine takeD (i := 53) (d := some 64) (v := undef) rfl rfl (by kernel_rfl) (by kernel_rfl) (by kernel_rfl) (fun _ _ _ h => h) (Or.inr ⟨by rfl, rfl⟩) hHeld ?_
          (repeat (first | simp only [Act.put] | simp only [List.setIfInBounds_toArray] | simp only [List.set_cons_zero] | simp only [List.set_cons_succ]))
          refine takeD (i := 54) (d := some 65) (v := undef) rfl rfl (by kernel_rfl) (by kernel_rfl) (by kernel_rfl) (fun _ _ _ h => h) (Or.inr ⟨by rfl, rfl⟩) hHeld ?_
          (repeat (first | simp only [Act.put] | simp only [List.setIfInBounds_toArray] | simp only [List.set_cons_zero] | simp only [List.set_cons_succ]))
          refine takeD (i := 55) (d := some 66) (v := undef) rfl rfl (by kernel_rfl) (by kernel_rfl) (by kernel_rfl) (fun _ _ _ h => h) (Or.inr ⟨by rfl, rfl⟩) hHeld ?_
          (repeat (first | simp only [Act.put] | simp only [List.setIfInBounds_toArray] | simp only [List.set_cons_zero] | simp only [List.set_cons_succ]))
          refine takeD (i := 56) (d := some 67) (v := undef) rfl rfl (by kernel_rfl) (by kernel_rfl) (by kernel_rfl) (fun _ _ _ h => h) (Or.inr ⟨by rfl, rfl⟩) hHeld ?_
          (repeat (first | simp only [Act.put] | simp only [List.setIfInBounds_toArray] | simp only [List.set_cons_zero] | simp only [List.set_cons_succ]))
          refine takeD (i := 57) (d := some 68) (v := ?_) rfl rfl (by kernel_rfl) (by kernel_rfl) (by kernel_rfl) (fun _ _ _ h => h) (Or.inl ⟨by rfl, ?_⟩) hHeld ?_
          rotate_left 1
          focus (intro w hSw; (try dsimp only at hSw); go_simp; (try with_reducible rfl))
          (repeat (first | simp only [Act.put] | simp only [List.setIfInBounds_toArray] | simp only [List.set_cons_zero] | simp only [List.set_cons_succ]))
          refine wpAnyH_done (by kernel_rfl) ?_ _
          have hqrXO := hqrX.out
          have hz : d = false := by
            rw [HD.out, Bool.eq_false_iff]
            intro hh
            simp only [Bool.and_eq_true, Bool.or_eq_true, decide_eq_true_eq, ne_eq] at hh
            omega
          clear hqrXO
          go_wp2_with fail
          go_meet
          case rel => exact ⟨rfl, by rw [hz]; rfl, Lib.hid (by repeat (first | with_reducible exact Below.refl _ _ | with_reducible exact HB9.out | (with_reducible refine Below.alloc ?_ (by simp) _) | (with_reducible refine Below.drew ?_)))⟩
  case rest =>
    obtain ⟨rfl, rfl, HB⟩ := hcut
    cases d with
    | false =>
      have HZ := Lib.hid (show goodB s k = false from hG.out)
      go_wp2_with fail
      go_ret
      exact ⟨ret_bool HZ.out.symm, HB.out⟩
    | true =>
      have HZ := Lib.hid (show goodB s k = (s.drop (12 + n)).all (fun c => c == 0) from hG.out.trans (Bool.true_and _))
      have hn116 : n ≤ 116 := by
        have hh := HD.out.symm
        simp only [Bool.and_eq_true, Bool.or_eq_true, decide_eq_true_eq, ne_eq] at hh
        omega
      have hw12 : IntKind.i64.wrap (12 + (n : Int)) = 12 + (n : Int) := IntWalk.i64_in _ (by omega)
      have HLs := Lib.hid hs
      clear hc4 hc8 hc10 hi4 hi8 hi10 hn4 hn8 hn10 hm4 hm8 hm10 hc0 hc40 hc80 hqw hkw C0 C4 C8 P4 P8 L4 L8 HR hG HD h10 h11 h hs
      go_wp2_with fail
      go_loopw [6] (fun i wr => ∃ j : Nat, 12 + n ≤ j ∧ j ≤ 128 ∧ i = .int .i64 (j : Int) ∧ Hid (∀ t, 12 + n ≤ t → t < j → s.getD t 0 = 0) ∧ Hid (Below w.heap.size w wr)) (fun i _ => 128 - (intOf i).toNat)
      case atStart => exact ⟨12 + n, Nat.le_refl _, by omega, by congr 1, Lib.hid fun t a b => absurd b (by omega), HB⟩
      case round =>
        obtain ⟨j, hj1, hj2, rfl, HJ, HBr⟩ := hrel
        clear hw12
        by_cases hlt : j < 128
        · obtain ⟨b3, off3, e3, -, -, hck⟩ := HS.out.at_ HBr.out (show j < s.length by rw [HLs.out]; exact hlt)
          injection e3 with e3
          injection e3 with e4 e5
          subst e4 e5
          have hj0 : (0 : Int) ≤ (j : Int) := by omega
          have hj3 : (j : Int) < 128 := by omega
          have hgd : s.getD j 0 = s[j]'(by rw [HLs.out]; exact hlt) := by rw [List.getD_eq_getElem?_getD, List.getElem?_eq_getElem (by rw [HLs.out]; exact hlt), Option.getD_some]
          rw [← hgd] at hck
          have HGD := Lib.hid hgd
          obtain ⟨y, hy⟩ : ∃ y, y = (s.getD j 0).toNat := ⟨_, rfl⟩
          rw [← hy] at hck
          have HY := Lib.hid hy
          clear hy hgd
          by_cases hy0 : y = 0
          · have HJ2 := Lib.hid (show ∀ t, 12 + n ≤ t → t < j + 1 → s.getD t 0 = 0 from fun t a b => by
              rcases Nat.lt_or_ge t j with h1 | h1
              · exact HJ.out t a h1
              · obtain rfl : t = j := by omega
                exact UInt8.toNat_inj.1 (HY.out.symm.trans hy0))
            subst hy0
            go_wp2_with fail
            go_roundw
            case rel => exact ⟨j + 1, by omega, by omega, rfl, HJ2, HBr⟩
            case measure => simp [intOf]; omega
          · have hyb : ((y : Int) != 0) = true := by rw [bne_iff_ne]; omega
            have HF := Lib.hid (show goodB s k = false from by
              rw [HZ.out, List.all_eq_false]
              refine ⟨s[j]'(by rw [HLs.out]; exact hlt), ?_, ?_⟩
              · refine List.mem_of_getElem? (i := j - (12 + n)) ?_
                rw [List.getElem?_drop, show 12 + n + (j - (12 + n)) = j by omega, List.getElem?_eq_getElem (by rw [HLs.out]; exact hlt)]
              · rw [← HGD.out]
                intro e
                have e2 : s.getD j 0 = 0 := by simpa using e
                rw [e2] at HY
                exact hy0 HY.out)
            clear hy0
            go_wp2_with fail
            go_ret
            exact ⟨ret_bool HF.out.symm, HBr.out⟩
        · have HT := Lib.hid (show goodB s k = true from by
            rw [HZ.out, List.all_eq_true]
            intro x hx
            obtain ⟨i, hi, rfl⟩ := List.getElem_of_mem hx
            rw [List.length_drop, HLs.out] at hi
            have := HJ.out (12 + n + i) (by omega) (by omega)
            rw [List.getElem_drop]
            rw [List.getD_eq_getElem?_getD, List.getElem?_eq_getElem (by rw [HLs.out]; omega), Option.getD_some] at this
            rw [this]; rfl)
          go_wp2_with fail
          go_ret
          exact ⟨ret_bool HT.out.symm, HBr.out⟩
end Go.Proofs.Ytocjhepiooljpaa
