/- The law WalSteps. -/
import Derived.Test.YtocjhepiooljpaaY5
import Derived.Test.YtocjhepiooljpaaA15
import Derived.Test.YtocjhepiooljpaaT9
namespace Go.Proofs.Ytocjhepiooljpaa
open Go.RowKit Go.Deep Go.Shelf

theorem IsLog.mat8 {w : World} {M : Nat → Prop} {a s r : Value} {l : LogD} (h : IsLog w M (.agg #[a, r, s]) l) : IsMat w M r l.recs := by
  obtain ⟨rv, e, h3⟩ := h
  simp only [Value.agg.injEq, Array.mk.injEq, List.cons.injEq, and_true] at e
  rw [e.2.1]; exact h3
theorem frz8 {w : World} {g j : Nat} {cs : Array Value} {t : TypeId} (h : w.heap[g]? = some (.cells cs t (0, 0))) : w.frozen? ⟨g, j, none⟩ = false := by simp [World.frozen?, h]
theorem lens_app {a b : List (List UInt8)} (ha : LensR a) (hb : LensR b) : LensR ([] ++ a ++ b) := by
  rw [List.nil_append]
  intro i hi
  rw [List.getElem_append]
  split
  · exact ha _ _
  · exact hb _ _
set_option maxRecDepth 20000 in
set_option maxHeartbeats 4000000 in
theorem law8 (w : World) (M M' : Nat → Prop) (xs ys : List (List UInt8)) (v v' : Value) (h : IsMat w M v xs) (h' : IsMat w M' v' ys) (hfa : FitR xs) (hfb : FitR ys) (hlen : xs.length + ys.length ≤ 1048576) : Calls Try.prog 8 #[v, v'] w fun e w' => e = .returned (.bool true) ∧ Below w.heap.size w w' := by
  obtain ⟨aA, ac, rfl, ha1, ha2, har⟩ := id h
  obtain ⟨bA, bc, rfl, hb1, hb2, hbr⟩ := id h'
  have HAR := Lib.hid (har.mono (M' := fun b => b < w.heap.size) fun b hb _ => hb)
  have HBR := Lib.hid (hbr.mono (M' := fun b => b < w.heap.size) fun b hb _ => hb)
  have HFA := Lib.hid hfa
  have HFB := Lib.hid hfb
  have HLE := Lib.hid hlen
  have HCA := Lib.hid (And.intro ha1 ha2)
  have HCB := Lib.hid (And.intro hb1 hb2)
  clear har hbr h h' hfa hfb hlen ha1 ha2 hb1 hb2
  have CN := Lib.hid fun W => new_any W (40 : Int)
  obtain ⟨D, hD⟩ : ∃ D, D = freshD 40 := ⟨_, rfl⟩
  rw [show newD (40 : Int) = (D, 0) from by rw [hD]; exact newD_yes (n := 40) (by omega) (by omega)] at CN
  have hwk : Wk D 40 0 := by rw [hD]; exact wk_fresh (by omega) (by omega)
  obtain ⟨C, X, Y, hST⟩ := steps xs ys
  have HD := Lib.hid hD
  have HWK := Lib.hid hwk
  have HST := Lib.hid hST
  clear hD hwk hST
  go_enter Try.func8, Try.ntmps8
  go_wp2_with fail
  refine (sane_any w).mono ?_
  rintro e w2 ⟨rfl, hb⟩
  have HB := Lib.hid hb
  clear hb
  go_wp2_with fail
  refine (CN.out w2).mono ?_
  rintro e w3 ⟨v3, rfl, hd3, hb⟩
  obtain ⟨sA3, sc3, pA3, pc3, rfl, -⟩ := hd3.parts
  have HD3 := Lib.hid (hd3.mono (M' := fun _ => True) fun b hb _ => trivial)
  replace HB := Lib.hid (HB.out.trans (hb.mono HB.out.size))
  clear hd3 hb CN
  go_upto_region 4 with fail
  refine nameC fun W4 hW => ?_
  have hb4 : Below w3.heap.size w3 W4 := by rw [hW.out]; exact (Below.refl _ _).alloc (Nat.le_refl _) _
  have hx5 : W4.heap[w3.heap.size]? = some (.cells #[.slice sA3 D.sectors.length sc3, .slice pA3 D.pending.length pc3, .int .i64 D.left, .bool D.stopped] 25 (0, 0)) := by rw [hW.out]; exact heap_alloc_new _ _
  have HX5 := Lib.hid hx5
  replace HB := Lib.hid (HB.out.trans (hb4.mono HB.out.size))
  replace HD3 := Lib.hid (HD3.out.below hb4)
  clear hW hb4 hx5
  have c0 := cell_of (j := 0) HX5.out rfl
  have c1 := cell_of (j := 1) HX5.out rfl
  have c2 := cell_of (j := 2) HX5.out rfl
  have c3 := cell_of (j := 3) HX5.out rfl
  have hq5 := lt_heap HX5.out
  have har4 := HAR.out.keep fun p _ hp => HB.out.cell hp
  have hbr4 := HBR.out.keep fun p _ hp => HB.out.cell hp
  have HAR4 := Lib.hid har4
  have HBR4 := Lib.hid hbr4
  have hsz4 := HB.out.size
  clear har4 hbr4
  go_cut [43] (fun s W => ∃ z, s = .bool z ∧ Hid (Below W4.heap.size W4 W))
  case first =>
    have HC := Lib.hid fun (W : World) (hW : Below W4.heap.size W4 W) => show (fun w' => w'.cell? ⟨w3.heap.size, 0, none⟩ = some (.slice sA3 D.sectors.length sc3) ∧ w'.cell? ⟨w3.heap.size, 1, none⟩ = some (.slice pA3 D.pending.length pc3) ∧ w'.cell? ⟨w3.heap.size, 2, none⟩ = some (.int .i64 D.left) ∧ w'.cell? ⟨w3.heap.size, 3, none⟩ = some (.bool D.stopped)) W from ⟨(hW.cell (p := ⟨w3.heap.size, 0, none⟩) hq5).trans c0, (hW.cell (p := ⟨w3.heap.size, 1, none⟩) hq5).trans c1, (hW.cell (p := ⟨w3.heap.size, 2, none⟩) hq5).trans c2, (hW.cell (p := ⟨w3.heap.size, 3, none⟩) hq5).trans c3⟩
    refine wp_region_held_drew (S := fun w' => w'.cell? ⟨w3.heap.size, 0, none⟩ = some (.slice sA3 D.sectors.length sc3) ∧ w'.cell? ⟨w3.heap.size, 1, none⟩ = some (.slice pA3 D.pending.length pc3) ∧ w'.cell? ⟨w3.heap.size, 2, none⟩ = some (.int .i64 D.left) ∧ w'.cell? ⟨w3.heap.size, 3, none⟩ = some (.bool D.stopped)) (by kernel_rfl) (HC.out _ (Below.drew (Below.refl _ _))) (fun hHeld => ?_)
    change wpAnyH _ _ _ _ _ 12 #[false, false, false, false, false, false, false, false, false, false, false, false] _ W4.drew
    refine takeD (i := 0) (d := some 32) (v := ?_) rfl rfl (by kernel_rfl) (by kernel_rfl) (by kernel_rfl) (fun _ _ _ h => h) (Or.inl ⟨by rfl, ?_⟩) hHeld ?_
    rotate_left 1
    focus (intro w hSw; (try dsimp only at hSw); go_simp; (try with_reducible rfl))
    (repeat (first | simp only [Act.put] | simp only [List.setIfInBounds_toArray] | simp only [List.set_cons_zero] | simp only [List.set_cons_succ]))
    refine takeD (i := 1) (d := some 33) (v := ?_) rfl rfl (by kernel_rfl) (by kernel_rfl) (by kernel_rfl) (fun _ _ _ h => h) (Or.inl ⟨by rfl, ?_⟩) hHeld ?_
    rotate_left 1
    focus (intro w hSw; (try dsimp only at hSw); go_simp; (try with_reducible rfl))
    (repeat (first | simp only [Act.put] | simp only [List.setIfInBounds_toArray] | simp only [List.set_cons_zero] | simp only [List.set_cons_succ]))
    refine takeD (i := 2) (d := some 34) (v := ?_) rfl rfl (by kernel_rfl) (by kernel_rfl) (by kernel_rfl) (fun _ _ _ h => h) (Or.inl ⟨by rfl, ?_⟩) hHeld ?_
    rotate_left 1
    focus (intro w hSw; (try dsimp only at hSw); go_simp; (try with_reducible rfl))
    (repeat (first | simp only [Act.put] | simp only [List.setIfInBounds_toArray] | simp only [List.set_cons_zero] | simp only [List.set_cons_succ]))
    refine takeD (i := 3) (d := some 35) (v := ?_) rfl rfl (by kernel_rfl) (by kernel_rfl) (by kernel_rfl) (fun _ _ _ h => h) (Or.inl ⟨by rfl, ?_⟩) hHeld ?_
    rotate_left 1
    focus (intro w hSw; (try dsimp only at hSw); go_simp; (try with_reducible rfl))
    (repeat (first | simp only [Act.put] | simp only [List.setIfInBounds_toArray] | simp only [List.set_cons_zero] | simp only [List.set_cons_succ]))
    refine takeD (i := 5) (d := some 37) (v := ?_) rfl rfl (by kernel_rfl) (by kernel_rfl) (by kernel_rfl) (fun _ _ _ h => h) (Or.inl ⟨by rfl, ?_⟩) hHeld ?_
    rotate_left 1
    focus (intro w hSw; (try dsimp only at hSw); go_simp; (try with_reducible rfl))
    (repeat (first | simp only [Act.put] | simp only [List.setIfInBounds_toArray] | simp only [List.set_cons_zero] | simp only [List.set_cons_succ]))
    refine takeD (i := 7) (d := some 39) (v := ?_) rfl rfl (by kernel_rfl) (by kernel_rfl) (by kernel_rfl) (fun _ _ _ h => h) (Or.inl ⟨by rfl, ?_⟩) hHeld ?_
    rotate_left 1
    focus (intro w hSw; (try dsimp only at hSw); go_simp; (try with_reducible rfl))
    (repeat (first | simp only [Act.put] | simp only [List.setIfInBounds_toArray] | simp only [List.set_cons_zero] | simp only [List.set_cons_succ]))
    refine wpAnyH_ready (rs := [4]) (by kernel_rfl) (by simp) ?_
    refine AllReadyH.cons rfl (fun K hK => ?_) AllReadyH.nil
    go_simp
    have HB9 : Hid (Below W4.heap.size W4 (W4.drew.alloc (.cells #[] 35))) := Lib.hid ((Below.drew (Below.refl _ _)).alloc (Nat.le_refl _) _)
    have HR9 : Hid (RowsR (W4.drew.alloc (.cells #[] 35)) W4.heap.size (fun b => b < w.heap.size) (.slice (some ⟨W4.heap.size, 0, none⟩) 0 0) []) := Lib.hid (RowsR.empty (heap_alloc_new _ _) (Nat.le_refl _))
    refine hK.out _ _ (HC.out _ HB9.out) (fun hHeld => ?_)
    clear hK K
    (repeat (first | simp only [Act.put] | simp only [List.setIfInBounds_toArray] | simp only [List.set_cons_zero] | simp only [List.set_cons_succ]))
    refine wpAnyH_ready (rs := [6]) (by kernel_rfl) (by simp) ?_
    refine AllReadyH.cons rfl (fun K hK => ?_) AllReadyH.nil
    refine wp_appM (.tmp 36) (.tmp 37) rfl W4.heap.size W4.heap.size (.slice (some ⟨W4.heap.size, 0, none⟩) 0 0) ([]) rfl HR9.out aA (xs).length ac (xs) rfl rfl (HAR4.out.keep fun p _ hp => HB9.out.cell hp) (fun b hb => by omega) (by have := HLE.out; simp; omega) HB9.out.size (Nat.le_refl _) HB9.out ?_
    intro v1 w9v1 HR HBn hsz
    replace HB9 := HBn
    replace HR9 := HR
    clear HR HBn hsz
    refine hK.out _ _ (HC.out _ HB9.out) (fun hHeld => ?_)
    clear hK K
    (repeat (first | simp only [Act.put] | simp only [List.setIfInBounds_toArray] | simp only [List.set_cons_zero] | simp only [List.set_cons_succ]))
    refine wpAnyH_ready (rs := [8]) (by kernel_rfl) (by simp) ?_
    refine AllReadyH.cons rfl (fun K hK => ?_) AllReadyH.nil
    refine wp_appM (.tmp 38) (.tmp 39) rfl W4.heap.size W4.heap.size v1 ([] ++ xs) rfl HR9.out bA (ys).length bc (ys) rfl rfl (HBR4.out.keep fun p _ hp => HB9.out.cell hp) (fun b hb => by omega) (by have := HLE.out; simp; omega) HB9.out.size (Nat.le_refl _) HB9.out ?_
    intro v2 w9v2 HR HBn hsz
    replace HB9 := HBn
    replace HR9 := HR
    clear HR HBn hsz
    have hmv := HR9.out.mat (M' := fun _ => True) (fun _ _ => trivial) (fun _ _ _ => trivial)
    have HMV := Lib.hid hmv
    clear hmv
    refine hK.out _ _ (HC.out _ HB9.out) (fun hHeld => ?_)
    clear hK K
    (repeat (first | simp only [Act.put] | simp only [List.setIfInBounds_toArray] | simp only [List.set_cons_zero] | simp only [List.set_cons_succ]))
    refine wpAnyH_ready (rs := [9]) (by kernel_rfl) (by simp) ?_
    refine AllReadyH.cons rfl (fun K hK => ?_) AllReadyH.nil
    go_simp
    go_at_call 11
    refine (few_any _ _ _ D _ (HD3.out.below HB9.out) ([] ++ xs ++ ys) _ (lens_app HFA.out.lens HFB.out.lens) (by have := HLE.out; simp; omega) HMV.out).mono ?_
    rintro e w10 ⟨z, rfl, -, hb⟩
    replace HB9 := Lib.hid (HB9.out.trans (hb.mono HB9.out.size))
    clear hb
    refine hK.out _ _ (HC.out _ HB9.out) (fun hHeld => ?_)
    clear hK K
    (repeat (first | simp only [Act.put] | simp only [List.setIfInBounds_toArray] | simp only [List.set_cons_zero] | simp only [List.set_cons_succ]))
    refine takeD (i := 10) (d := some 42) (v := ?_) rfl rfl (by kernel_rfl) (by kernel_rfl) (by kernel_rfl) (fun _ _ _ h => h) (Or.inl ⟨by rfl, ?_⟩) hHeld ?_
    rotate_left 1
    focus (intro w hSw; (try dsimp only at hSw); go_simp; (try with_reducible rfl))
    (repeat (first | simp only [Act.put] | simp only [List.setIfInBounds_toArray] | simp only [List.set_cons_zero] | simp only [List.set_cons_succ]))
    refine takeD (i := 11) (d := some 43) (v := ?_) rfl rfl (by kernel_rfl) (by kernel_rfl) (by kernel_rfl) (fun _ _ _ h => h) (Or.inl ⟨by rfl, ?_⟩) hHeld ?_
    rotate_left 1
    focus (intro w hSw; (try dsimp only at hSw); go_simp; (try with_reducible rfl))
    (repeat (first | simp only [Act.put] | simp only [List.setIfInBounds_toArray] | simp only [List.set_cons_zero] | simp only [List.set_cons_succ]))
    refine wpAnyH_done (by kernel_rfl) ?_ _
    go_wp2_with fail
    go_meet
    case rel => exact ⟨_, rfl, HB9⟩
  case rest =>
    obtain ⟨z, rfl, HBc⟩ := hcut
    replace HX5 := Lib.hid ((HBc.out.block _ (lt_heap HX5.out)).trans HX5.out)
    replace HD3 := Lib.hid (HD3.out.below HBc.out)
    replace HB := Lib.hid (HB.out.trans (HBc.out.mono HB.out.size))
    clear HBc c0 c1 c2 c3 hq5 HAR4 HBR4 hsz4
    cases z
    case true =>
      go_wp2_with fail
      go_ret
      exact ⟨rfl, HB.out⟩
    have c0 := cell_of (j := 0) HX5.out rfl
    have c1 := cell_of (j := 1) HX5.out rfl
    have c2 := cell_of (j := 2) HX5.out rfl
    have c3 := cell_of (j := 3) HX5.out rfl
    go_wp2_with fail
    clear c0 c1 c2 c3
    have CO := open_any wc _ D _ HD3.out
    rw [HWK.out.open_] at CO
    have hrec : recs D.sectors = [] := by rw [HD.out]; exact rec_fresh 40
    have HREC := Lib.hid hrec
    refine CO.mono ?_
    rintro e W6 ⟨v6, rfl, hl, hb⟩
    obtain ⟨rA, rn, rc, rfl, hl⟩ := form_logOf hl
    have HL6 := Lib.hid (hl.mono (M' := fun _ => True) fun _ _ _ => trivial)
    replace HX5 := Lib.hid ((hb.block _ (lt_heap HX5.out)).trans HX5.out)
    replace HD3 := Lib.hid (HD3.out.below hb)
    replace HB := Lib.hid (HB.out.trans (hb.mono HB.out.size))
    clear CO hl hb hrec
    go_upto_region 10 with fail
    refine nameC fun W7 hW7 => ?_
    obtain ⟨n8, hn8⟩ : ∃ n8, n8 = W6.heap.size := ⟨_, rfl⟩
    have hb7 : Below W6.heap.size W6 W7 := by rw [hW7.out]; exact (Below.refl _ _).alloc (Nat.le_refl _) _
    have hx8 : W7.heap[n8]? = some (.cells #[.int .i64 (D.sectors.length : Int), .slice rA rn rc, .int .i64 ((recs D.sectors).length : Int)] 29 (0, 0)) := by rw [hW7.out, hn8]; exact heap_alloc_new _ _
    rw [← hn8]
    have HX8 := Lib.hid hx8
    replace HX5 := Lib.hid ((hb7.block _ (lt_heap HX5.out)).trans HX5.out)
    replace HD3 := Lib.hid (HD3.out.below hb7)
    replace HL6 := Lib.hid (HL6.out.below hb7)
    replace HB := Lib.hid (HB.out.trans (hb7.mono HB.out.size))
    clear hW7 hb7 hx8 hn8
    
    have c0 := cell_of (j := 0) HX5.out rfl
    have c1 := cell_of (j := 1) HX5.out rfl
    have c2 := cell_of (j := 2) HX5.out rfl
    have c3 := cell_of (j := 3) HX5.out rfl
    have l0 := cell_of (j := 0) HX8.out rfl
    have l1 := cell_of (j := 1) HX8.out rfl
    have l2 := cell_of (j := 2) HX8.out rfl
    have hq5 := lt_heap HX5.out
    have hq8 := lt_heap HX8.out
    have HLq := Lib.hid (HL6.out.mono (M' := NB []) fun _ _ _ => by simp [NB])
    have HDk := Lib.hid (HD3.out.mono (M' := fun b => b < W7.heap.size) fun b hb _ => hb)
    have HS1 := Lib.hid (show syncL (logOf D (addAll D (addAll D [] xs) ys)) D = (logOf C [], C, 0) by have := HST.out.both; rwa [← HD.out] at this)
    go_cut [10, 11, 12] (fun s10 s11 s12 W => ∃ b10 b11 A n c sA sc pA pc, s10 = .pointer (some ⟨b10, 0, none⟩) ∧ s11 = .pointer (some ⟨b11, 0, none⟩) ∧ s12 = .int .i64 0 ∧ Hid (BS W7 b10 b11 C A n c sA sc pA pc W))
    case first =>
      have HC := fun (W : World) (hW : Below W7.heap.size W7 W) => show (fun w' => w'.cell? ⟨w3.heap.size, 0, none⟩ = some (.slice sA3 D.sectors.length sc3) ∧ w'.cell? ⟨w3.heap.size, 1, none⟩ = some (.slice pA3 D.pending.length pc3) ∧ w'.cell? ⟨w3.heap.size, 2, none⟩ = some (.int .i64 D.left) ∧ w'.cell? ⟨w3.heap.size, 3, none⟩ = some (.bool D.stopped) ∧ w'.cell? ⟨n8, 0, none⟩ = some (.int .i64 (D.sectors.length : Int)) ∧ w'.cell? ⟨n8, 1, none⟩ = some (.slice rA rn rc) ∧ w'.cell? ⟨n8, 2, none⟩ = some (.int .i64 ((recs D.sectors).length : Int))) W from ⟨(hW.cell (p := ⟨w3.heap.size, 0, none⟩) hq5).trans c0, (hW.cell (p := ⟨w3.heap.size, 1, none⟩) hq5).trans c1, (hW.cell (p := ⟨w3.heap.size, 2, none⟩) hq5).trans c2, (hW.cell (p := ⟨w3.heap.size, 3, none⟩) hq5).trans c3, (hW.cell (p := ⟨n8, 0, none⟩) hq8).trans l0, (hW.cell (p := ⟨n8, 1, none⟩) hq8).trans l1, (hW.cell (p := ⟨n8, 2, none⟩) hq8).trans l2⟩
      replace HC := Lib.hid HC
      refine wp_region_held_drew (S := (fun w' => w'.cell? ⟨w3.heap.size, 0, none⟩ = some (.slice sA3 D.sectors.length sc3) ∧ w'.cell? ⟨w3.heap.size, 1, none⟩ = some (.slice pA3 D.pending.length pc3) ∧ w'.cell? ⟨w3.heap.size, 2, none⟩ = some (.int .i64 D.left) ∧ w'.cell? ⟨w3.heap.size, 3, none⟩ = some (.bool D.stopped) ∧ w'.cell? ⟨n8, 0, none⟩ = some (.int .i64 (D.sectors.length : Int)) ∧ w'.cell? ⟨n8, 1, none⟩ = some (.slice rA rn rc) ∧ w'.cell? ⟨n8, 2, none⟩ = some (.int .i64 ((recs D.sectors).length : Int)))) (by kernel_rfl) (HC.out _ (Below.drew (Below.refl _ _))) (fun hHeld => ?_)
      change wpAnyH _ _ _ _ _ 18 #[false, false, false, false, false, false, false, false, false, false, false, false, false, false, false, false, false, false] _ W7.drew
      refine takeD (i := 0) (d := some 54) (v := ?_) rfl rfl (by kernel_rfl) (by kernel_rfl) (by kernel_rfl) (fun _ _ _ h => h) (Or.inl ⟨by rfl, ?_⟩) hHeld ?_
      rotate_left 1
      focus (intro w hSw; (try dsimp only at hSw); go_simp; (try with_reducible rfl))
      (repeat (first | simp only [Act.put] | simp only [List.setIfInBounds_toArray] | simp only [List.set_cons_zero] | simp only [List.set_cons_succ]))
      refine takeD (i := 1) (d := some 55) (v := ?_) rfl rfl (by kernel_rfl) (by kernel_rfl) (by kernel_rfl) (fun _ _ _ h => h) (Or.inl ⟨by rfl, ?_⟩) hHeld ?_
      rotate_left 1
      focus (intro w hSw; (try dsimp only at hSw); go_simp; (try with_reducible rfl))
      (repeat (first | simp only [Act.put] | simp only [List.setIfInBounds_toArray] | simp only [List.set_cons_zero] | simp only [List.set_cons_succ]))
      refine takeD (i := 2) (d := some 56) (v := ?_) rfl rfl (by kernel_rfl) (by kernel_rfl) (by kernel_rfl) (fun _ _ _ h => h) (Or.inl ⟨by rfl, ?_⟩) hHeld ?_
      rotate_left 1
      focus (intro w hSw; (try dsimp only at hSw); go_simp; (try with_reducible rfl))
      (repeat (first | simp only [Act.put] | simp only [List.setIfInBounds_toArray] | simp only [List.set_cons_zero] | simp only [List.set_cons_succ]))
      refine takeD (i := 3) (d := some 57) (v := ?_) rfl rfl (by kernel_rfl) (by kernel_rfl) (by kernel_rfl) (fun _ _ _ h => h) (Or.inl ⟨by rfl, ?_⟩) hHeld ?_
      rotate_left 1
      focus (intro w hSw; (try dsimp only at hSw); go_simp; (try with_reducible rfl))
      (repeat (first | simp only [Act.put] | simp only [List.setIfInBounds_toArray] | simp only [List.set_cons_zero] | simp only [List.set_cons_succ]))
      refine takeD (i := 5) (d := some 59) (v := ?_) rfl rfl (by kernel_rfl) (by kernel_rfl) (by kernel_rfl) (fun _ _ _ h => h) (Or.inl ⟨by rfl, ?_⟩) hHeld ?_
      rotate_left 1
      focus (intro w hSw; (try dsimp only at hSw); go_simp; (try with_reducible rfl))
      (repeat (first | simp only [Act.put] | simp only [List.setIfInBounds_toArray] | simp only [List.set_cons_zero] | simp only [List.set_cons_succ]))
      refine takeD (i := 7) (d := some 61) (v := ?_) rfl rfl (by kernel_rfl) (by kernel_rfl) (by kernel_rfl) (fun _ _ _ h => h) (Or.inl ⟨by rfl, ?_⟩) hHeld ?_
      rotate_left 1
      focus (intro w hSw; (try dsimp only at hSw); go_simp; (try with_reducible rfl))
      (repeat (first | simp only [Act.put] | simp only [List.setIfInBounds_toArray] | simp only [List.set_cons_zero] | simp only [List.set_cons_succ]))
      refine nameG (w := W7.drew) fun wq hwq => ?_
      have HB9 : Hid (Below W7.heap.size W7 wq) := Lib.hid (by rw [hwq.out]; exact Below.drew (Below.refl _ _))
      replace HLq := Lib.hid (HLq.out.below (show Below W7.heap.size W7 wq from HB9.out))
      clear hHeld hwq
      apply join3 (F := fun wN b10 b11 A4 n4 c4 A6 n6 c6 A8 n9 c8 sA sc pA pc => Hid (Below W7.heap.size W7 wN) ∧ Hid (IsLog wN (NB [b10, b11]) (.agg #[.int .i64 (C.sectors.length : Int), .slice A8 n9 c8, .int .i64 ((recs C.sectors).length : Int)]) (logOf C [])) ∧ Hid (wN.heap[b10]? = some (.cells #[.int .i64 0, .slice none 0 0, .int .i64 0] 29 (0, 0))) ∧ W7.heap.size ≤ b10 ∧ Hid (wN.heap[b11]? = some (.cells #[.slice none 0 0, .slice none 0 0, .int .i64 0, .bool false] 25 (0, 0))) ∧ W7.heap.size ≤ b11 ∧ b10 ≠ b11 ∧ Hid (IsDisk wN (NB [b10, b11]) (.agg #[.slice sA C.sectors.length sc, .slice pA C.pending.length pc, .int .i64 C.left, .bool C.stopped]) C))
      case h1 =>
        intro key311
        apply join3 (F := fun wN b10 b11 A4 n4 c4 A6 n6 c6 A8 n9 c8 sA sc pA pc => Hid (Below W7.heap.size W7 wN) ∧ Hid (IsLog wN (NB [b10]) (.agg #[.int .i64 (C.sectors.length : Int), .slice A8 n9 c8, .int .i64 ((recs C.sectors).length : Int)]) (logOf C [])) ∧ Hid (wN.heap[b10]? = some (.cells #[.int .i64 0, .slice none 0 0, .int .i64 0] 29 (0, 0))) ∧ W7.heap.size ≤ b10 ∧ Hid (IsDisk wN (NB [b10]) (.agg #[.slice sA C.sectors.length sc, .slice pA C.pending.length pc, .int .i64 C.left, .bool C.stopped]) C))
        case h1 =>
          intro key310
          apply join3 (F := fun wN b10 b11 A4 n4 c4 A6 n6 c6 A8 n9 c8 sA sc pA pc => Hid (Below W7.heap.size W7 wN) ∧ Hid (IsLog wN (NB [b11]) (.agg #[.int .i64 (C.sectors.length : Int), .slice A8 n9 c8, .int .i64 ((recs C.sectors).length : Int)]) (logOf C [])) ∧ Hid (wN.heap[b11]? = some (.cells #[.slice none 0 0, .slice none 0 0, .int .i64 0, .bool false] 25 (0, 0))) ∧ W7.heap.size ≤ b11 ∧ Hid (IsDisk wN (NB [b11]) (.agg #[.slice sA C.sectors.length sc, .slice pA C.pending.length pc, .int .i64 C.left, .bool C.stopped]) C))
          case h1 =>
            intro key301
            apply join3 (F := fun wN b10 b11 A4 n4 c4 A6 n6 c6 A8 n9 c8 sA sc pA pc => Hid (Below W7.heap.size W7 wN) ∧ Hid (IsLog wN (NB []) (.agg #[.int .i64 (C.sectors.length : Int), .slice A8 n9 c8, .int .i64 ((recs C.sectors).length : Int)]) (logOf C [])) ∧ Hid (IsDisk wN (NB []) (.agg #[.slice sA C.sectors.length sc, .slice pA C.pending.length pc, .int .i64 C.left, .bool C.stopped]) C))
            case h1 =>
              intro key300
              apply join3 (F := fun wN b10 b11 A4 n4 c4 A6 n6 c6 A8 n9 c8 sA sc pA pc => Hid (Below W7.heap.size W7 wN) ∧ Hid (IsLog wN (NB [b10, b11]) (.agg #[.int .i64 (D.sectors.length : Int), .slice A6 n6 c6, .int .i64 ((recs D.sectors).length : Int)]) (logOf D (addAll D (addAll D [] xs) ys))) ∧ Hid (wN.heap[b10]? = some (.cells #[.int .i64 0, .slice none 0 0, .int .i64 0] 29 (0, 0))) ∧ W7.heap.size ≤ b10 ∧ Hid (wN.heap[b11]? = some (.cells #[.slice none 0 0, .slice none 0 0, .int .i64 0, .bool false] 25 (0, 0))) ∧ W7.heap.size ≤ b11 ∧ b10 ≠ b11)
              case h1 =>
                intro key211
                apply join3 (F := fun wN b10 b11 A4 n4 c4 A6 n6 c6 A8 n9 c8 sA sc pA pc => Hid (Below W7.heap.size W7 wN) ∧ Hid (IsLog wN (NB [b10]) (.agg #[.int .i64 (D.sectors.length : Int), .slice A6 n6 c6, .int .i64 ((recs D.sectors).length : Int)]) (logOf D (addAll D (addAll D [] xs) ys))) ∧ Hid (wN.heap[b10]? = some (.cells #[.int .i64 0, .slice none 0 0, .int .i64 0] 29 (0, 0))) ∧ W7.heap.size ≤ b10)
                case h1 =>
                  intro key210
                  apply join3 (F := fun wN b10 b11 A4 n4 c4 A6 n6 c6 A8 n9 c8 sA sc pA pc => Hid (Below W7.heap.size W7 wN) ∧ Hid (IsLog wN (NB [b11]) (.agg #[.int .i64 (D.sectors.length : Int), .slice A6 n6 c6, .int .i64 ((recs D.sectors).length : Int)]) (logOf D (addAll D (addAll D [] xs) ys))) ∧ Hid (wN.heap[b11]? = some (.cells #[.slice none 0 0, .slice none 0 0, .int .i64 0, .bool false] 25 (0, 0))) ∧ W7.heap.size ≤ b11)
                  case h1 =>
                    intro key201
                    apply join3 (F := fun wN b10 b11 A4 n4 c4 A6 n6 c6 A8 n9 c8 sA sc pA pc => Hid (Below W7.heap.size W7 wN) ∧ Hid (IsLog wN (NB []) (.agg #[.int .i64 (D.sectors.length : Int), .slice A6 n6 c6, .int .i64 ((recs D.sectors).length : Int)]) (logOf D (addAll D (addAll D [] xs) ys))))
                    case h1 =>
                      intro key200
                      apply join3 (F := fun wN b10 b11 A4 n4 c4 A6 n6 c6 A8 n9 c8 sA sc pA pc => Hid (Below W7.heap.size W7 wN) ∧ Hid (IsLog wN (NB [b10, b11]) (.agg #[.int .i64 (D.sectors.length : Int), .slice A4 n4 c4, .int .i64 ((recs D.sectors).length : Int)]) (logOf D (addAll D [] xs))) ∧ Hid (wN.heap[b10]? = some (.cells #[.int .i64 0, .slice none 0 0, .int .i64 0] 29 (0, 0))) ∧ W7.heap.size ≤ b10 ∧ Hid (wN.heap[b11]? = some (.cells #[.slice none 0 0, .slice none 0 0, .int .i64 0, .bool false] 25 (0, 0))) ∧ W7.heap.size ≤ b11 ∧ b10 ≠ b11)
                      case h1 =>
                        intro key111
                        apply join3 (F := fun wN b10 b11 A4 n4 c4 A6 n6 c6 A8 n9 c8 sA sc pA pc => Hid (Below W7.heap.size W7 wN) ∧ Hid (IsLog wN (NB [b10]) (.agg #[.int .i64 (D.sectors.length : Int), .slice A4 n4 c4, .int .i64 ((recs D.sectors).length : Int)]) (logOf D (addAll D [] xs))) ∧ Hid (wN.heap[b10]? = some (.cells #[.int .i64 0, .slice none 0 0, .int .i64 0] 29 (0, 0))) ∧ W7.heap.size ≤ b10)
                        case h1 =>
                          intro key110
                          apply join3 (F := fun wN b10 b11 A4 n4 c4 A6 n6 c6 A8 n9 c8 sA sc pA pc => Hid (Below W7.heap.size W7 wN) ∧ Hid (IsLog wN (NB [b11]) (.agg #[.int .i64 (D.sectors.length : Int), .slice A4 n4 c4, .int .i64 ((recs D.sectors).length : Int)]) (logOf D (addAll D [] xs))) ∧ Hid (wN.heap[b11]? = some (.cells #[.slice none 0 0, .slice none 0 0, .int .i64 0, .bool false] 25 (0, 0))) ∧ W7.heap.size ≤ b11)
                          case h1 =>
                            intro key101
                            apply join3 (F := fun wN b10 b11 A4 n4 c4 A6 n6 c6 A8 n9 c8 sA sc pA pc => Hid (Below W7.heap.size W7 wN) ∧ Hid (IsLog wN (NB []) (.agg #[.int .i64 (D.sectors.length : Int), .slice A4 n4 c4, .int .i64 ((recs D.sectors).length : Int)]) (logOf D (addAll D [] xs))))
                            case h1 =>
                              intro key100
                              apply join3 (F := fun wN b10 b11 A4 n4 c4 A6 n6 c6 A8 n9 c8 sA sc pA pc => Hid (Below W7.heap.size W7 wN) ∧ Hid (IsLog wN (NB [b10, b11]) (.agg #[.int .i64 (D.sectors.length : Int), .slice rA rn rc, .int .i64 ((recs D.sectors).length : Int)]) (logOf D [])) ∧ Hid (wN.heap[b10]? = some (.cells #[.int .i64 0, .slice none 0 0, .int .i64 0] 29 (0, 0))) ∧ W7.heap.size ≤ b10 ∧ Hid (wN.heap[b11]? = some (.cells #[.slice none 0 0, .slice none 0 0, .int .i64 0, .bool false] 25 (0, 0))) ∧ W7.heap.size ≤ b11 ∧ b10 ≠ b11)
                              case h1 =>
                                intro key011
                                apply join3 (F := fun wN b10 b11 A4 n4 c4 A6 n6 c6 A8 n9 c8 sA sc pA pc => Hid (Below W7.heap.size W7 wN) ∧ Hid (IsLog wN (NB [b10]) (.agg #[.int .i64 (D.sectors.length : Int), .slice rA rn rc, .int .i64 ((recs D.sectors).length : Int)]) (logOf D [])) ∧ Hid (wN.heap[b10]? = some (.cells #[.int .i64 0, .slice none 0 0, .int .i64 0] 29 (0, 0))) ∧ W7.heap.size ≤ b10)
                                case h1 =>
                                  intro key010
                                  apply join3 (F := fun wN b10 b11 A4 n4 c4 A6 n6 c6 A8 n9 c8 sA sc pA pc => Hid (Below W7.heap.size W7 wN) ∧ Hid (IsLog wN (NB [b11]) (.agg #[.int .i64 (D.sectors.length : Int), .slice rA rn rc, .int .i64 ((recs D.sectors).length : Int)]) (logOf D [])) ∧ Hid (wN.heap[b11]? = some (.cells #[.slice none 0 0, .slice none 0 0, .int .i64 0, .bool false] 25 (0, 0))) ∧ W7.heap.size ≤ b11)
                                  case h1 =>
                                    intro key001
                                    obtain ⟨b10, b11, A4, n4, c4, A6, n6, c6, A8, n9, c8, sA, sc, pA, pc, -⟩ : ∃ (b10 : Nat) (b11 : Nat) (A4 : Option Addr) (n4 : Nat) (c4 : Nat) (A6 : Option Addr) (n6 : Nat) (c6 : Nat) (A8 : Option Addr) (n9 : Nat) (c8 : Nat) (sA : Option Addr) (sc : Nat) (pA : Option Addr) (pc : Nat), True := ⟨0, 0, none, 0, 0, none, 0, 0, none, 0, 0, none, 0, none, 0, trivial⟩
                                    refine wpAnyH_ready (rs := [4, 13, 14]) (by kernel_rfl) (by simp) ?_
                                    refine AllReadyH.cons rfl (fun K hK => ?_) (AllReadyH.cons rfl (fun K hK => ?_) (AllReadyH.cons rfl (fun K hK => ?_) AllReadyH.nil))
                                    · skip
                                      go_simp
                                      go_at_call 28
                                      refine (add_any wq (NB []) D ([]) _ HLq.out HWK.out.ok (fit_logOf HWK.out) xs _ ⟨aA, ac, rfl, HCA.out.1, HCA.out.2, (HAR.out.keep fun p _ hp => (HB.out.trans (HB9.out.mono HB.out.size)).cell hp).mono fun b _ hb hin => by cases hin⟩ HFA.out).mono ?_
                                      rintro e w101 ⟨v9, rfl, hl, hb⟩
                                      obtain ⟨A4, n4, c4, rfl, hl⟩ := form_logOf hl
                                      replace HLq := Lib.hid (hl.mono (M' := NB []) fun q _ hq => NB.new (InW.nil _) hq)
                                      clear hl
                                      replace HB9 := Lib.hid (HB9.out.trans (hb.mono HB9.out.size))
                                      clear hb
                                      refine hK.out _ _ (HC.out _ HB9.out) (fun hHeld => ?_)
                                      clear hK K
                                      (repeat (first | simp only [Act.put] | simp only [List.setIfInBounds_toArray] | simp only [List.set_cons_zero] | simp only [List.set_cons_succ]))
                                      clear hHeld
                                      exact key100 w101 b10 b11 A4 n4 c4 A6 n6 c6 A8 n9 c8 sA sc pA pc ⟨HB9, HLq⟩
                                    · skip
                                      refine wpOp_al (d := some 10) (obj := .cells #[.int .i64 0, .slice none 0 0, .int .i64 0] 29) rfl rfl (run_alL _ rfl) ?_
                                      obtain ⟨b10, hbn⟩ : ∃ b, b = wq.heap.size := ⟨_, rfl⟩
                                      rw [← hbn]
                                      obtain ⟨w102, hwn⟩ : ∃ w', w' = wq.alloc (.cells #[.int .i64 0, .slice none 0 0, .int .i64 0] 29) := ⟨_, rfl⟩
                                      rw [← hwn]
                                      have hb : Below wq.heap.size wq w102 := by rw [hwn]; exact (Below.refl _ _).alloc (Nat.le_refl _) _
                                      have HX10 := Lib.hid (show w102.heap[b10]? = some (.cells #[.int .i64 0, .slice none 0 0, .int .i64 0] 29 (0, 0)) by rw [hwn, hbn]; exact heap_alloc_new _ _)
                                      have h10 : W7.heap.size ≤ b10 := by have := HB9.out.size; omega
                                      replace HLq := Lib.hid ((HLq.out.mono (M' := NB [b10]) fun b hlt hM hin => by simp only [List.mem_cons, List.not_mem_nil, or_false] at hin; rcases hin with rfl <;> first | omega | exact hM (by simp)).below hb)
                                      replace HB9 := Lib.hid (HB9.out.trans (hb.mono HB9.out.size))
                                      clear hb hwn hbn
                                      refine hK.out _ _ (HC.out _ HB9.out) (fun hHeld => ?_)
                                      clear hK K hHeld
                                      (repeat (first | simp only [Act.put] | simp only [List.setIfInBounds_toArray] | simp only [List.set_cons_zero] | simp only [List.set_cons_succ]))
                                      exact key010 w102 b10 b11 A4 n4 c4 A6 n6 c6 A8 n9 c8 sA sc pA pc ⟨HB9, HLq, HX10, h10⟩
                                    · skip
                                      refine wpOp_al (d := some 11) (obj := .cells #[.slice none 0 0, .slice none 0 0, .int .i64 0, .bool false] 25) rfl rfl (run_alD _ rfl) ?_
                                      obtain ⟨b11, hbn⟩ : ∃ b, b = wq.heap.size := ⟨_, rfl⟩
                                      rw [← hbn]
                                      obtain ⟨w103, hwn⟩ : ∃ w', w' = wq.alloc (.cells #[.slice none 0 0, .slice none 0 0, .int .i64 0, .bool false] 25) := ⟨_, rfl⟩
                                      rw [← hwn]
                                      have hb : Below wq.heap.size wq w103 := by rw [hwn]; exact (Below.refl _ _).alloc (Nat.le_refl _) _
                                      have HX11 := Lib.hid (show w103.heap[b11]? = some (.cells #[.slice none 0 0, .slice none 0 0, .int .i64 0, .bool false] 25 (0, 0)) by rw [hwn, hbn]; exact heap_alloc_new _ _)
                                      have h11 : W7.heap.size ≤ b11 := by have := HB9.out.size; omega
                                      replace HLq := Lib.hid ((HLq.out.mono (M' := NB [b11]) fun b hlt hM hin => by simp only [List.mem_cons, List.not_mem_nil, or_false] at hin; rcases hin with rfl <;> first | omega | exact hM (by simp)).below hb)
                                      replace HB9 := Lib.hid (HB9.out.trans (hb.mono HB9.out.size))
                                      clear hb hwn hbn
                                      refine hK.out _ _ (HC.out _ HB9.out) (fun hHeld => ?_)
                                      clear hK K hHeld
                                      (repeat (first | simp only [Act.put] | simp only [List.setIfInBounds_toArray] | simp only [List.set_cons_zero] | simp only [List.set_cons_succ]))
                                      exact key001 w103 b10 b11 A4 n4 c4 A6 n6 c6 A8 n9 c8 sA sc pA pc ⟨HB9, HLq, HX11, h11⟩
                                  case h2 =>
                                    intro wz001 b10 b11 A4 n4 c4 A6 n6 c6 A8 n9 c8 sA sc pA pc ⟨HB9, HLq, HX11, h11⟩
                                    (try dsimp only)
                                    refine wpAnyH_ready (rs := [4, 13]) (by kernel_rfl) (by simp) ?_
                                    refine AllReadyH.cons rfl (fun K hK => ?_) (AllReadyH.cons rfl (fun K hK => ?_) AllReadyH.nil)
                                    · skip
                                      go_simp
                                      go_at_call 28
                                      refine (add_any wz001 (NB [b11]) D ([]) _ HLq.out HWK.out.ok (fit_logOf HWK.out) xs _ ⟨aA, ac, rfl, HCA.out.1, HCA.out.2, (HAR.out.keep fun p _ hp => (HB.out.trans (HB9.out.mono HB.out.size)).cell hp).mono fun b _ hb hin => by simp only [List.mem_cons, List.not_mem_nil, or_false] at hin; have := HB.out.size; omega⟩ HFA.out).mono ?_
                                      rintro e w104 ⟨v9, rfl, hl, hb⟩
                                      obtain ⟨A4, n4, c4, rfl, hl⟩ := form_logOf hl
                                      replace HLq := Lib.hid (hl.mono (M' := NB [b11]) fun q _ hq => NB.new ((InW.nil _).cons (lt_heap HX11.out)) hq)
                                      clear hl
                                      replace HX11 := Lib.hid ((hb.block _ (lt_heap HX11.out)).trans HX11.out)
                                      replace HB9 := Lib.hid (HB9.out.trans (hb.mono HB9.out.size))
                                      clear hb
                                      refine hK.out _ _ (HC.out _ HB9.out) (fun hHeld => ?_)
                                      clear hK K
                                      (repeat (first | simp only [Act.put] | simp only [List.setIfInBounds_toArray] | simp only [List.set_cons_zero] | simp only [List.set_cons_succ]))
                                      clear hHeld
                                      exact key101 w104 b10 b11 A4 n4 c4 A6 n6 c6 A8 n9 c8 sA sc pA pc ⟨HB9, HLq, HX11, h11⟩
                                    · skip
                                      refine wpOp_al (d := some 10) (obj := .cells #[.int .i64 0, .slice none 0 0, .int .i64 0] 29) rfl rfl (run_alL _ rfl) ?_
                                      obtain ⟨b10, hbn⟩ : ∃ b, b = wz001.heap.size := ⟨_, rfl⟩
                                      rw [← hbn]
                                      obtain ⟨w105, hwn⟩ : ∃ w', w' = wz001.alloc (.cells #[.int .i64 0, .slice none 0 0, .int .i64 0] 29) := ⟨_, rfl⟩
                                      rw [← hwn]
                                      have hb : Below wz001.heap.size wz001 w105 := by rw [hwn]; exact (Below.refl _ _).alloc (Nat.le_refl _) _
                                      have HX10 := Lib.hid (show w105.heap[b10]? = some (.cells #[.int .i64 0, .slice none 0 0, .int .i64 0] 29 (0, 0)) by rw [hwn, hbn]; exact heap_alloc_new _ _)
                                      have h10 : W7.heap.size ≤ b10 := by have := HB9.out.size; omega
                                      have hne : b10 ≠ b11 := by have := lt_heap HX11.out; omega
                                      replace HX11 := Lib.hid ((hb.block _ (lt_heap HX11.out)).trans HX11.out)
                                      replace HLq := Lib.hid ((HLq.out.mono (M' := NB [b10, b11]) fun b hlt hM hin => by simp only [List.mem_cons, List.not_mem_nil, or_false] at hin; rcases hin with rfl | rfl <;> first | omega | exact hM (by simp)).below hb)
                                      replace HB9 := Lib.hid (HB9.out.trans (hb.mono HB9.out.size))
                                      clear hb hwn hbn
                                      refine hK.out _ _ (HC.out _ HB9.out) (fun hHeld => ?_)
                                      clear hK K hHeld
                                      (repeat (first | simp only [Act.put] | simp only [List.setIfInBounds_toArray] | simp only [List.set_cons_zero] | simp only [List.set_cons_succ]))
                                      exact key011 w105 b10 b11 A4 n4 c4 A6 n6 c6 A8 n9 c8 sA sc pA pc ⟨HB9, HLq, HX10, h10, HX11, h11, hne⟩
                                case h2 =>
                                  intro wz010 b10 b11 A4 n4 c4 A6 n6 c6 A8 n9 c8 sA sc pA pc ⟨HB9, HLq, HX10, h10⟩
                                  (try dsimp only)
                                  refine wpAnyH_ready (rs := [4, 14]) (by kernel_rfl) (by simp) ?_
                                  refine AllReadyH.cons rfl (fun K hK => ?_) (AllReadyH.cons rfl (fun K hK => ?_) AllReadyH.nil)
                                  · skip
                                    go_simp
                                    go_at_call 28
                                    refine (add_any wz010 (NB [b10]) D ([]) _ HLq.out HWK.out.ok (fit_logOf HWK.out) xs _ ⟨aA, ac, rfl, HCA.out.1, HCA.out.2, (HAR.out.keep fun p _ hp => (HB.out.trans (HB9.out.mono HB.out.size)).cell hp).mono fun b _ hb hin => by simp only [List.mem_cons, List.not_mem_nil, or_false] at hin; have := HB.out.size; omega⟩ HFA.out).mono ?_
                                    rintro e w106 ⟨v9, rfl, hl, hb⟩
                                    obtain ⟨A4, n4, c4, rfl, hl⟩ := form_logOf hl
                                    replace HLq := Lib.hid (hl.mono (M' := NB [b10]) fun q _ hq => NB.new ((InW.nil _).cons (lt_heap HX10.out)) hq)
                                    clear hl
                                    replace HX10 := Lib.hid ((hb.block _ (lt_heap HX10.out)).trans HX10.out)
                                    replace HB9 := Lib.hid (HB9.out.trans (hb.mono HB9.out.size))
                                    clear hb
                                    refine hK.out _ _ (HC.out _ HB9.out) (fun hHeld => ?_)
                                    clear hK K
                                    (repeat (first | simp only [Act.put] | simp only [List.setIfInBounds_toArray] | simp only [List.set_cons_zero] | simp only [List.set_cons_succ]))
                                    clear hHeld
                                    exact key110 w106 b10 b11 A4 n4 c4 A6 n6 c6 A8 n9 c8 sA sc pA pc ⟨HB9, HLq, HX10, h10⟩
                                  · skip
                                    refine wpOp_al (d := some 11) (obj := .cells #[.slice none 0 0, .slice none 0 0, .int .i64 0, .bool false] 25) rfl rfl (run_alD _ rfl) ?_
                                    obtain ⟨b11, hbn⟩ : ∃ b, b = wz010.heap.size := ⟨_, rfl⟩
                                    rw [← hbn]
                                    obtain ⟨w107, hwn⟩ : ∃ w', w' = wz010.alloc (.cells #[.slice none 0 0, .slice none 0 0, .int .i64 0, .bool false] 25) := ⟨_, rfl⟩
                                    rw [← hwn]
                                    have hb : Below wz010.heap.size wz010 w107 := by rw [hwn]; exact (Below.refl _ _).alloc (Nat.le_refl _) _
                                    have HX11 := Lib.hid (show w107.heap[b11]? = some (.cells #[.slice none 0 0, .slice none 0 0, .int .i64 0, .bool false] 25 (0, 0)) by rw [hwn, hbn]; exact heap_alloc_new _ _)
                                    have h11 : W7.heap.size ≤ b11 := by have := HB9.out.size; omega
                                    have hne : b10 ≠ b11 := by have := lt_heap HX10.out; omega
                                    replace HX10 := Lib.hid ((hb.block _ (lt_heap HX10.out)).trans HX10.out)
                                    replace HLq := Lib.hid ((HLq.out.mono (M' := NB [b10, b11]) fun b hlt hM hin => by simp only [List.mem_cons, List.not_mem_nil, or_false] at hin; rcases hin with rfl | rfl <;> first | omega | exact hM (by simp)).below hb)
                                    replace HB9 := Lib.hid (HB9.out.trans (hb.mono HB9.out.size))
                                    clear hb hwn hbn
                                    refine hK.out _ _ (HC.out _ HB9.out) (fun hHeld => ?_)
                                    clear hK K hHeld
                                    (repeat (first | simp only [Act.put] | simp only [List.setIfInBounds_toArray] | simp only [List.set_cons_zero] | simp only [List.set_cons_succ]))
                                    exact key011 w107 b10 b11 A4 n4 c4 A6 n6 c6 A8 n9 c8 sA sc pA pc ⟨HB9, HLq, HX10, h10, HX11, h11, hne⟩
                              case h2 =>
                                intro wz011 b10 b11 A4 n4 c4 A6 n6 c6 A8 n9 c8 sA sc pA pc ⟨HB9, HLq, HX10, h10, HX11, h11, hne⟩
                                (try dsimp only)
                                refine wpAnyH_ready (rs := [4]) (by kernel_rfl) (by simp) ?_
                                refine AllReadyH.cons rfl (fun K hK => ?_) AllReadyH.nil
                                · skip
                                  go_simp
                                  go_at_call 28
                                  refine (add_any wz011 (NB [b10, b11]) D ([]) _ HLq.out HWK.out.ok (fit_logOf HWK.out) xs _ ⟨aA, ac, rfl, HCA.out.1, HCA.out.2, (HAR.out.keep fun p _ hp => (HB.out.trans (HB9.out.mono HB.out.size)).cell hp).mono fun b _ hb hin => by simp only [List.mem_cons, List.not_mem_nil, or_false] at hin; have := HB.out.size; omega⟩ HFA.out).mono ?_
                                  rintro e w108 ⟨v9, rfl, hl, hb⟩
                                  obtain ⟨A4, n4, c4, rfl, hl⟩ := form_logOf hl
                                  replace HLq := Lib.hid (hl.mono (M' := NB [b10, b11]) fun q _ hq => NB.new (((InW.nil _).cons (lt_heap HX11.out)).cons (lt_heap HX10.out)) hq)
                                  clear hl
                                  replace HX10 := Lib.hid ((hb.block _ (lt_heap HX10.out)).trans HX10.out)
                                  replace HX11 := Lib.hid ((hb.block _ (lt_heap HX11.out)).trans HX11.out)
                                  replace HB9 := Lib.hid (HB9.out.trans (hb.mono HB9.out.size))
                                  clear hb
                                  refine hK.out _ _ (HC.out _ HB9.out) (fun hHeld => ?_)
                                  clear hK K
                                  (repeat (first | simp only [Act.put] | simp only [List.setIfInBounds_toArray] | simp only [List.set_cons_zero] | simp only [List.set_cons_succ]))
                                  clear hHeld
                                  exact key111 w108 b10 b11 A4 n4 c4 A6 n6 c6 A8 n9 c8 sA sc pA pc ⟨HB9, HLq, HX10, h10, HX11, h11, hne⟩
                            case h2 =>
                              intro wz100 b10 b11 A4 n4 c4 A6 n6 c6 A8 n9 c8 sA sc pA pc ⟨HB9, HLq⟩
                              (try dsimp only)
                              refine wpAnyH_ready (rs := [6, 13, 14]) (by kernel_rfl) (by simp) ?_
                              refine AllReadyH.cons rfl (fun K hK => ?_) (AllReadyH.cons rfl (fun K hK => ?_) (AllReadyH.cons rfl (fun K hK => ?_) AllReadyH.nil))
                              · skip
                                go_simp
                                go_at_call 28
                                refine (add_any wz100 (NB []) D (addAll D [] xs) _ HLq.out HWK.out.ok (addAll_fit (fit_logOf HWK.out) xs) ys _ ⟨bA, bc, rfl, HCB.out.1, HCB.out.2, (HBR.out.keep fun p _ hp => (HB.out.trans (HB9.out.mono HB.out.size)).cell hp).mono fun b _ hb hin => by cases hin⟩ HFB.out).mono ?_
                                rintro e w109 ⟨v9, rfl, hl, hb⟩
                                obtain ⟨A6, n6, c6, rfl, hl⟩ := form_logOf hl
                                replace HLq := Lib.hid (hl.mono (M' := NB []) fun q _ hq => NB.new (InW.nil _) hq)
                                clear hl
                                replace HB9 := Lib.hid (HB9.out.trans (hb.mono HB9.out.size))
                                clear hb
                                refine hK.out _ _ (HC.out _ HB9.out) (fun hHeld => ?_)
                                clear hK K
                                (repeat (first | simp only [Act.put] | simp only [List.setIfInBounds_toArray] | simp only [List.set_cons_zero] | simp only [List.set_cons_succ]))
                                clear hHeld
                                exact key200 w109 b10 b11 A4 n4 c4 A6 n6 c6 A8 n9 c8 sA sc pA pc ⟨HB9, HLq⟩
                              · skip
                                refine wpOp_al (d := some 10) (obj := .cells #[.int .i64 0, .slice none 0 0, .int .i64 0] 29) rfl rfl (run_alL _ rfl) ?_
                                obtain ⟨b10, hbn⟩ : ∃ b, b = wz100.heap.size := ⟨_, rfl⟩
                                rw [← hbn]
                                obtain ⟨w110, hwn⟩ : ∃ w', w' = wz100.alloc (.cells #[.int .i64 0, .slice none 0 0, .int .i64 0] 29) := ⟨_, rfl⟩
                                rw [← hwn]
                                have hb : Below wz100.heap.size wz100 w110 := by rw [hwn]; exact (Below.refl _ _).alloc (Nat.le_refl _) _
                                have HX10 := Lib.hid (show w110.heap[b10]? = some (.cells #[.int .i64 0, .slice none 0 0, .int .i64 0] 29 (0, 0)) by rw [hwn, hbn]; exact heap_alloc_new _ _)
                                have h10 : W7.heap.size ≤ b10 := by have := HB9.out.size; omega
                                replace HLq := Lib.hid ((HLq.out.mono (M' := NB [b10]) fun b hlt hM hin => by simp only [List.mem_cons, List.not_mem_nil, or_false] at hin; rcases hin with rfl <;> first | omega | exact hM (by simp)).below hb)
                                replace HB9 := Lib.hid (HB9.out.trans (hb.mono HB9.out.size))
                                clear hb hwn hbn
                                refine hK.out _ _ (HC.out _ HB9.out) (fun hHeld => ?_)
                                clear hK K hHeld
                                (repeat (first | simp only [Act.put] | simp only [List.setIfInBounds_toArray] | simp only [List.set_cons_zero] | simp only [List.set_cons_succ]))
                                exact key110 w110 b10 b11 A4 n4 c4 A6 n6 c6 A8 n9 c8 sA sc pA pc ⟨HB9, HLq, HX10, h10⟩
                              · skip
                                refine wpOp_al (d := some 11) (obj := .cells #[.slice none 0 0, .slice none 0 0, .int .i64 0, .bool false] 25) rfl rfl (run_alD _ rfl) ?_
                                obtain ⟨b11, hbn⟩ : ∃ b, b = wz100.heap.size := ⟨_, rfl⟩
                                rw [← hbn]
                                obtain ⟨w111, hwn⟩ : ∃ w', w' = wz100.alloc (.cells #[.slice none 0 0, .slice none 0 0, .int .i64 0, .bool false] 25) := ⟨_, rfl⟩
                                rw [← hwn]
                                have hb : Below wz100.heap.size wz100 w111 := by rw [hwn]; exact (Below.refl _ _).alloc (Nat.le_refl _) _
                                have HX11 := Lib.hid (show w111.heap[b11]? = some (.cells #[.slice none 0 0, .slice none 0 0, .int .i64 0, .bool false] 25 (0, 0)) by rw [hwn, hbn]; exact heap_alloc_new _ _)
                                have h11 : W7.heap.size ≤ b11 := by have := HB9.out.size; omega
                                replace HLq := Lib.hid ((HLq.out.mono (M' := NB [b11]) fun b hlt hM hin => by simp only [List.mem_cons, List.not_mem_nil, or_false] at hin; rcases hin with rfl <;> first | omega | exact hM (by simp)).below hb)
                                replace HB9 := Lib.hid (HB9.out.trans (hb.mono HB9.out.size))
                                clear hb hwn hbn
                                refine hK.out _ _ (HC.out _ HB9.out) (fun hHeld => ?_)
                                clear hK K hHeld
                                (repeat (first | simp only [Act.put] | simp only [List.setIfInBounds_toArray] | simp only [List.set_cons_zero] | simp only [List.set_cons_succ]))
                                exact key101 w111 b10 b11 A4 n4 c4 A6 n6 c6 A8 n9 c8 sA sc pA pc ⟨HB9, HLq, HX11, h11⟩
                          case h2 =>
                            intro wz101 b10 b11 A4 n4 c4 A6 n6 c6 A8 n9 c8 sA sc pA pc ⟨HB9, HLq, HX11, h11⟩
                            (try dsimp only)
                            refine wpAnyH_ready (rs := [6, 13]) (by kernel_rfl) (by simp) ?_
                            refine AllReadyH.cons rfl (fun K hK => ?_) (AllReadyH.cons rfl (fun K hK => ?_) AllReadyH.nil)
                            · skip
                              go_simp
                              go_at_call 28
                              refine (add_any wz101 (NB [b11]) D (addAll D [] xs) _ HLq.out HWK.out.ok (addAll_fit (fit_logOf HWK.out) xs) ys _ ⟨bA, bc, rfl, HCB.out.1, HCB.out.2, (HBR.out.keep fun p _ hp => (HB.out.trans (HB9.out.mono HB.out.size)).cell hp).mono fun b _ hb hin => by simp only [List.mem_cons, List.not_mem_nil, or_false] at hin; have := HB.out.size; omega⟩ HFB.out).mono ?_
                              rintro e w112 ⟨v9, rfl, hl, hb⟩
                              obtain ⟨A6, n6, c6, rfl, hl⟩ := form_logOf hl
                              replace HLq := Lib.hid (hl.mono (M' := NB [b11]) fun q _ hq => NB.new ((InW.nil _).cons (lt_heap HX11.out)) hq)
                              clear hl
                              replace HX11 := Lib.hid ((hb.block _ (lt_heap HX11.out)).trans HX11.out)
                              replace HB9 := Lib.hid (HB9.out.trans (hb.mono HB9.out.size))
                              clear hb
                              refine hK.out _ _ (HC.out _ HB9.out) (fun hHeld => ?_)
                              clear hK K
                              (repeat (first | simp only [Act.put] | simp only [List.setIfInBounds_toArray] | simp only [List.set_cons_zero] | simp only [List.set_cons_succ]))
                              clear hHeld
                              exact key201 w112 b10 b11 A4 n4 c4 A6 n6 c6 A8 n9 c8 sA sc pA pc ⟨HB9, HLq, HX11, h11⟩
                            · skip
                              refine wpOp_al (d := some 10) (obj := .cells #[.int .i64 0, .slice none 0 0, .int .i64 0] 29) rfl rfl (run_alL _ rfl) ?_
                              obtain ⟨b10, hbn⟩ : ∃ b, b = wz101.heap.size := ⟨_, rfl⟩
                              rw [← hbn]
                              obtain ⟨w113, hwn⟩ : ∃ w', w' = wz101.alloc (.cells #[.int .i64 0, .slice none 0 0, .int .i64 0] 29) := ⟨_, rfl⟩
                              rw [← hwn]
                              have hb : Below wz101.heap.size wz101 w113 := by rw [hwn]; exact (Below.refl _ _).alloc (Nat.le_refl _) _
                              have HX10 := Lib.hid (show w113.heap[b10]? = some (.cells #[.int .i64 0, .slice none 0 0, .int .i64 0] 29 (0, 0)) by rw [hwn, hbn]; exact heap_alloc_new _ _)
                              have h10 : W7.heap.size ≤ b10 := by have := HB9.out.size; omega
                              have hne : b10 ≠ b11 := by have := lt_heap HX11.out; omega
                              replace HX11 := Lib.hid ((hb.block _ (lt_heap HX11.out)).trans HX11.out)
                              replace HLq := Lib.hid ((HLq.out.mono (M' := NB [b10, b11]) fun b hlt hM hin => by simp only [List.mem_cons, List.not_mem_nil, or_false] at hin; rcases hin with rfl | rfl <;> first | omega | exact hM (by simp)).below hb)
                              replace HB9 := Lib.hid (HB9.out.trans (hb.mono HB9.out.size))
                              clear hb hwn hbn
                              refine hK.out _ _ (HC.out _ HB9.out) (fun hHeld => ?_)
                              clear hK K hHeld
                              (repeat (first | simp only [Act.put] | simp only [List.setIfInBounds_toArray] | simp only [List.set_cons_zero] | simp only [List.set_cons_succ]))
                              exact key111 w113 b10 b11 A4 n4 c4 A6 n6 c6 A8 n9 c8 sA sc pA pc ⟨HB9, HLq, HX10, h10, HX11, h11, hne⟩
                        case h2 =>
                          intro wz110 b10 b11 A4 n4 c4 A6 n6 c6 A8 n9 c8 sA sc pA pc ⟨HB9, HLq, HX10, h10⟩
                          (try dsimp only)
                          refine wpAnyH_ready (rs := [6, 14]) (by kernel_rfl) (by simp) ?_
                          refine AllReadyH.cons rfl (fun K hK => ?_) (AllReadyH.cons rfl (fun K hK => ?_) AllReadyH.nil)
                          · skip
                            go_simp
                            go_at_call 28
                            refine (add_any wz110 (NB [b10]) D (addAll D [] xs) _ HLq.out HWK.out.ok (addAll_fit (fit_logOf HWK.out) xs) ys _ ⟨bA, bc, rfl, HCB.out.1, HCB.out.2, (HBR.out.keep fun p _ hp => (HB.out.trans (HB9.out.mono HB.out.size)).cell hp).mono fun b _ hb hin => by simp only [List.mem_cons, List.not_mem_nil, or_false] at hin; have := HB.out.size; omega⟩ HFB.out).mono ?_
                            rintro e w114 ⟨v9, rfl, hl, hb⟩
                            obtain ⟨A6, n6, c6, rfl, hl⟩ := form_logOf hl
                            replace HLq := Lib.hid (hl.mono (M' := NB [b10]) fun q _ hq => NB.new ((InW.nil _).cons (lt_heap HX10.out)) hq)
                            clear hl
                            replace HX10 := Lib.hid ((hb.block _ (lt_heap HX10.out)).trans HX10.out)
                            replace HB9 := Lib.hid (HB9.out.trans (hb.mono HB9.out.size))
                            clear hb
                            refine hK.out _ _ (HC.out _ HB9.out) (fun hHeld => ?_)
                            clear hK K
                            (repeat (first | simp only [Act.put] | simp only [List.setIfInBounds_toArray] | simp only [List.set_cons_zero] | simp only [List.set_cons_succ]))
                            clear hHeld
                            exact key210 w114 b10 b11 A4 n4 c4 A6 n6 c6 A8 n9 c8 sA sc pA pc ⟨HB9, HLq, HX10, h10⟩
                          · skip
                            refine wpOp_al (d := some 11) (obj := .cells #[.slice none 0 0, .slice none 0 0, .int .i64 0, .bool false] 25) rfl rfl (run_alD _ rfl) ?_
                            obtain ⟨b11, hbn⟩ : ∃ b, b = wz110.heap.size := ⟨_, rfl⟩
                            rw [← hbn]
                            obtain ⟨w115, hwn⟩ : ∃ w', w' = wz110.alloc (.cells #[.slice none 0 0, .slice none 0 0, .int .i64 0, .bool false] 25) := ⟨_, rfl⟩
                            rw [← hwn]
                            have hb : Below wz110.heap.size wz110 w115 := by rw [hwn]; exact (Below.refl _ _).alloc (Nat.le_refl _) _
                            have HX11 := Lib.hid (show w115.heap[b11]? = some (.cells #[.slice none 0 0, .slice none 0 0, .int .i64 0, .bool false] 25 (0, 0)) by rw [hwn, hbn]; exact heap_alloc_new _ _)
                            have h11 : W7.heap.size ≤ b11 := by have := HB9.out.size; omega
                            have hne : b10 ≠ b11 := by have := lt_heap HX10.out; omega
                            replace HX10 := Lib.hid ((hb.block _ (lt_heap HX10.out)).trans HX10.out)
                            replace HLq := Lib.hid ((HLq.out.mono (M' := NB [b10, b11]) fun b hlt hM hin => by simp only [List.mem_cons, List.not_mem_nil, or_false] at hin; rcases hin with rfl | rfl <;> first | omega | exact hM (by simp)).below hb)
                            replace HB9 := Lib.hid (HB9.out.trans (hb.mono HB9.out.size))
                            clear hb hwn hbn
                            refine hK.out _ _ (HC.out _ HB9.out) (fun hHeld => ?_)
                            clear hK K hHeld
                            (repeat (first | simp only [Act.put] | simp only [List.setIfInBounds_toArray] | simp only [List.set_cons_zero] | simp only [List.set_cons_succ]))
                            exact key111 w115 b10 b11 A4 n4 c4 A6 n6 c6 A8 n9 c8 sA sc pA pc ⟨HB9, HLq, HX10, h10, HX11, h11, hne⟩
                      case h2 =>
                        intro wz111 b10 b11 A4 n4 c4 A6 n6 c6 A8 n9 c8 sA sc pA pc ⟨HB9, HLq, HX10, h10, HX11, h11, hne⟩
                        (try dsimp only)
                        refine wpAnyH_ready (rs := [6]) (by kernel_rfl) (by simp) ?_
                        refine AllReadyH.cons rfl (fun K hK => ?_) AllReadyH.nil
                        · skip
                          go_simp
                          go_at_call 28
                          refine (add_any wz111 (NB [b10, b11]) D (addAll D [] xs) _ HLq.out HWK.out.ok (addAll_fit (fit_logOf HWK.out) xs) ys _ ⟨bA, bc, rfl, HCB.out.1, HCB.out.2, (HBR.out.keep fun p _ hp => (HB.out.trans (HB9.out.mono HB.out.size)).cell hp).mono fun b _ hb hin => by simp only [List.mem_cons, List.not_mem_nil, or_false] at hin; have := HB.out.size; omega⟩ HFB.out).mono ?_
                          rintro e w116 ⟨v9, rfl, hl, hb⟩
                          obtain ⟨A6, n6, c6, rfl, hl⟩ := form_logOf hl
                          replace HLq := Lib.hid (hl.mono (M' := NB [b10, b11]) fun q _ hq => NB.new (((InW.nil _).cons (lt_heap HX11.out)).cons (lt_heap HX10.out)) hq)
                          clear hl
                          replace HX10 := Lib.hid ((hb.block _ (lt_heap HX10.out)).trans HX10.out)
                          replace HX11 := Lib.hid ((hb.block _ (lt_heap HX11.out)).trans HX11.out)
                          replace HB9 := Lib.hid (HB9.out.trans (hb.mono HB9.out.size))
                          clear hb
                          refine hK.out _ _ (HC.out _ HB9.out) (fun hHeld => ?_)
                          clear hK K
                          (repeat (first | simp only [Act.put] | simp only [List.setIfInBounds_toArray] | simp only [List.set_cons_zero] | simp only [List.set_cons_succ]))
                          clear hHeld
                          exact key211 w116 b10 b11 A4 n4 c4 A6 n6 c6 A8 n9 c8 sA sc pA pc ⟨HB9, HLq, HX10, h10, HX11, h11, hne⟩
                    case h2 =>
                      intro wz200 b10 b11 A4 n4 c4 A6 n6 c6 A8 n9 c8 sA sc pA pc ⟨HB9, HLq⟩
                      (try dsimp only)
                      refine wpAnyH_ready (rs := [8, 13, 14]) (by kernel_rfl) (by simp) ?_
                      refine AllReadyH.cons rfl (fun K hK => ?_) (AllReadyH.cons rfl (fun K hK => ?_) (AllReadyH.cons rfl (fun K hK => ?_) AllReadyH.nil))
                      · skip
                        go_simp
                        go_at_call 21
                        have CO := syncW_any wz200 (NB []) (logOf D (addAll D (addAll D [] xs) ys)) _ HLq.out (fit_of_used (by have := (addAll_fit (addAll_fit (fit_logOf HWK.out) xs) ys); have := okB_sized HWK.out.ok; show used (recs D.sectors ++ addAll D (addAll D [] xs) ys) ≤ 4096; omega)) D _ ((HDk.out.below HB9.out).mono fun b _ hb hin => by cases hin)
                        rw [HS1.out] at CO
                        refine CO.mono ?_
                        rintro e w117 ⟨lv, dv, rfl, hl, hd, hb⟩
                        clear CO
                        obtain ⟨A8, n9, c8, rfl, hl⟩ := form_logOf hl
                        obtain ⟨sA, sc, pA, pc, rfl, -⟩ := hd.parts
                        replace HLq := Lib.hid (hl.mono (M' := NB []) fun q _ hq => NB.new (InW.nil _) hq)
                        have HDq := Lib.hid (hd.mono (M' := NB []) fun q _ hq => NB.new (InW.nil _) hq)
                        clear hl hd
                        replace HB9 := Lib.hid (HB9.out.trans (hb.mono HB9.out.size))
                        clear hb
                        refine hK.out _ _ (HC.out _ HB9.out) (fun hHeld => ?_)
                        clear hK K
                        (repeat (first | simp only [List.setIfInBounds_toArray] | simp only [List.set_cons_zero] | simp only [List.set_cons_succ]))
                        refine takeD (i := 9) (d := some 53) (v := ?_) rfl rfl (by kernel_rfl) (by kernel_rfl) (by kernel_rfl) (fun _ _ _ h => h) (Or.inl ⟨by rfl, ?_⟩) hHeld ?_
                        rotate_left 1
                        focus (intro w hSw; (try dsimp only at hSw); go_simp; (try with_reducible rfl))
                        (repeat (first | simp only [Act.put] | simp only [List.setIfInBounds_toArray] | simp only [List.set_cons_zero] | simp only [List.set_cons_succ]))
                        refine takeD (i := 10) (d := some 63) (v := ?_) rfl rfl (by kernel_rfl) (by kernel_rfl) (by kernel_rfl) (fun _ _ _ h => h) (Or.inl ⟨by rfl, ?_⟩) hHeld ?_
                        rotate_left 1
                        focus (intro w hSw; (try dsimp only at hSw); go_simp; (try with_reducible rfl))
                        (repeat (first | simp only [Act.put] | simp only [List.setIfInBounds_toArray] | simp only [List.set_cons_zero] | simp only [List.set_cons_succ]))
                        refine takeD (i := 11) (d := some 64) (v := ?_) rfl rfl (by kernel_rfl) (by kernel_rfl) (by kernel_rfl) (fun _ _ _ h => h) (Or.inl ⟨by rfl, ?_⟩) hHeld ?_
                        rotate_left 1
                        focus (intro w hSw; (try dsimp only at hSw); go_simp; (try with_reducible rfl))
                        (repeat (first | simp only [Act.put] | simp only [List.setIfInBounds_toArray] | simp only [List.set_cons_zero] | simp only [List.set_cons_succ]))
                        refine takeD (i := 12) (d := some 65) (v := ?_) rfl rfl (by kernel_rfl) (by kernel_rfl) (by kernel_rfl) (fun _ _ _ h => h) (Or.inl ⟨by rfl, ?_⟩) hHeld ?_
                        rotate_left 1
                        focus (intro w hSw; (try dsimp only at hSw); go_simp; (try with_reducible rfl))
                        (repeat (first | simp only [Act.put] | simp only [List.setIfInBounds_toArray] | simp only [List.set_cons_zero] | simp only [List.set_cons_succ]))
                        clear hHeld
                        exact key300 w117 b10 b11 A4 n4 c4 A6 n6 c6 A8 n9 c8 sA sc pA pc ⟨HB9, HLq, HDq⟩
                      · skip
                        refine wpOp_al (d := some 10) (obj := .cells #[.int .i64 0, .slice none 0 0, .int .i64 0] 29) rfl rfl (run_alL _ rfl) ?_
                        obtain ⟨b10, hbn⟩ : ∃ b, b = wz200.heap.size := ⟨_, rfl⟩
                        rw [← hbn]
                        obtain ⟨w118, hwn⟩ : ∃ w', w' = wz200.alloc (.cells #[.int .i64 0, .slice none 0 0, .int .i64 0] 29) := ⟨_, rfl⟩
                        rw [← hwn]
                        have hb : Below wz200.heap.size wz200 w118 := by rw [hwn]; exact (Below.refl _ _).alloc (Nat.le_refl _) _
                        have HX10 := Lib.hid (show w118.heap[b10]? = some (.cells #[.int .i64 0, .slice none 0 0, .int .i64 0] 29 (0, 0)) by rw [hwn, hbn]; exact heap_alloc_new _ _)
                        have h10 : W7.heap.size ≤ b10 := by have := HB9.out.size; omega
                        replace HLq := Lib.hid ((HLq.out.mono (M' := NB [b10]) fun b hlt hM hin => by simp only [List.mem_cons, List.not_mem_nil, or_false] at hin; rcases hin with rfl <;> first | omega | exact hM (by simp)).below hb)
                        replace HB9 := Lib.hid (HB9.out.trans (hb.mono HB9.out.size))
                        clear hb hwn hbn
                        refine hK.out _ _ (HC.out _ HB9.out) (fun hHeld => ?_)
                        clear hK K hHeld
                        (repeat (first | simp only [Act.put] | simp only [List.setIfInBounds_toArray] | simp only [List.set_cons_zero] | simp only [List.set_cons_succ]))
                        exact key210 w118 b10 b11 A4 n4 c4 A6 n6 c6 A8 n9 c8 sA sc pA pc ⟨HB9, HLq, HX10, h10⟩
                      · skip
                        refine wpOp_al (d := some 11) (obj := .cells #[.slice none 0 0, .slice none 0 0, .int .i64 0, .bool false] 25) rfl rfl (run_alD _ rfl) ?_
                        obtain ⟨b11, hbn⟩ : ∃ b, b = wz200.heap.size := ⟨_, rfl⟩
                        rw [← hbn]
                        obtain ⟨w119, hwn⟩ : ∃ w', w' = wz200.alloc (.cells #[.slice none 0 0, .slice none 0 0, .int .i64 0, .bool false] 25) := ⟨_, rfl⟩
                        rw [← hwn]
                        have hb : Below wz200.heap.size wz200 w119 := by rw [hwn]; exact (Below.refl _ _).alloc (Nat.le_refl _) _
                        have HX11 := Lib.hid (show w119.heap[b11]? = some (.cells #[.slice none 0 0, .slice none 0 0, .int .i64 0, .bool false] 25 (0, 0)) by rw [hwn, hbn]; exact heap_alloc_new _ _)
                        have h11 : W7.heap.size ≤ b11 := by have := HB9.out.size; omega
                        replace HLq := Lib.hid ((HLq.out.mono (M' := NB [b11]) fun b hlt hM hin => by simp only [List.mem_cons, List.not_mem_nil, or_false] at hin; rcases hin with rfl <;> first | omega | exact hM (by simp)).below hb)
                        replace HB9 := Lib.hid (HB9.out.trans (hb.mono HB9.out.size))
                        clear hb hwn hbn
                        refine hK.out _ _ (HC.out _ HB9.out) (fun hHeld => ?_)
                        clear hK K hHeld
                        (repeat (first | simp only [Act.put] | simp only [List.setIfInBounds_toArray] | simp only [List.set_cons_zero] | simp only [List.set_cons_succ]))
                        exact key201 w119 b10 b11 A4 n4 c4 A6 n6 c6 A8 n9 c8 sA sc pA pc ⟨HB9, HLq, HX11, h11⟩
                  case h2 =>
                    intro wz201 b10 b11 A4 n4 c4 A6 n6 c6 A8 n9 c8 sA sc pA pc ⟨HB9, HLq, HX11, h11⟩
                    (try dsimp only)
                    refine wpAnyH_ready (rs := [8, 13]) (by kernel_rfl) (by simp) ?_
                    refine AllReadyH.cons rfl (fun K hK => ?_) (AllReadyH.cons rfl (fun K hK => ?_) AllReadyH.nil)
                    · skip
                      go_simp
                      go_at_call 21
                      have CO := syncW_any wz201 (NB [b11]) (logOf D (addAll D (addAll D [] xs) ys)) _ HLq.out (fit_of_used (by have := (addAll_fit (addAll_fit (fit_logOf HWK.out) xs) ys); have := okB_sized HWK.out.ok; show used (recs D.sectors ++ addAll D (addAll D [] xs) ys) ≤ 4096; omega)) D _ ((HDk.out.below HB9.out).mono fun b _ hb hin => by simp only [List.mem_cons, List.not_mem_nil, or_false] at hin; omega)
                      rw [HS1.out] at CO
                      refine CO.mono ?_
                      rintro e w120 ⟨lv, dv, rfl, hl, hd, hb⟩
                      clear CO
                      obtain ⟨A8, n9, c8, rfl, hl⟩ := form_logOf hl
                      obtain ⟨sA, sc, pA, pc, rfl, -⟩ := hd.parts
                      replace HLq := Lib.hid (hl.mono (M' := NB [b11]) fun q _ hq => NB.new ((InW.nil _).cons (lt_heap HX11.out)) hq)
                      have HDq := Lib.hid (hd.mono (M' := NB [b11]) fun q _ hq => NB.new ((InW.nil _).cons (lt_heap HX11.out)) hq)
                      clear hl hd
                      replace HX11 := Lib.hid ((hb.block _ (lt_heap HX11.out)).trans HX11.out)
                      replace HB9 := Lib.hid (HB9.out.trans (hb.mono HB9.out.size))
                      clear hb
                      refine hK.out _ _ (HC.out _ HB9.out) (fun hHeld => ?_)
                      clear hK K
                      (repeat (first | simp only [List.setIfInBounds_toArray] | simp only [List.set_cons_zero] | simp only [List.set_cons_succ]))
                      refine takeD (i := 9) (d := some 53) (v := ?_) rfl rfl (by kernel_rfl) (by kernel_rfl) (by kernel_rfl) (fun _ _ _ h => h) (Or.inl ⟨by rfl, ?_⟩) hHeld ?_
                      rotate_left 1
                      focus (intro w hSw; (try dsimp only at hSw); go_simp; (try with_reducible rfl))
                      (repeat (first | simp only [Act.put] | simp only [List.setIfInBounds_toArray] | simp only [List.set_cons_zero] | simp only [List.set_cons_succ]))
                      refine takeD (i := 10) (d := some 63) (v := ?_) rfl rfl (by kernel_rfl) (by kernel_rfl) (by kernel_rfl) (fun _ _ _ h => h) (Or.inl ⟨by rfl, ?_⟩) hHeld ?_
                      rotate_left 1
                      focus (intro w hSw; (try dsimp only at hSw); go_simp; (try with_reducible rfl))
                      (repeat (first | simp only [Act.put] | simp only [List.setIfInBounds_toArray] | simp only [List.set_cons_zero] | simp only [List.set_cons_succ]))
                      refine takeD (i := 11) (d := some 64) (v := ?_) rfl rfl (by kernel_rfl) (by kernel_rfl) (by kernel_rfl) (fun _ _ _ h => h) (Or.inl ⟨by rfl, ?_⟩) hHeld ?_
                      rotate_left 1
                      focus (intro w hSw; (try dsimp only at hSw); go_simp; (try with_reducible rfl))
                      (repeat (first | simp only [Act.put] | simp only [List.setIfInBounds_toArray] | simp only [List.set_cons_zero] | simp only [List.set_cons_succ]))
                      refine takeD (i := 12) (d := some 65) (v := ?_) rfl rfl (by kernel_rfl) (by kernel_rfl) (by kernel_rfl) (fun _ _ _ h => h) (Or.inl ⟨by rfl, ?_⟩) hHeld ?_
                      rotate_left 1
                      focus (intro w hSw; (try dsimp only at hSw); go_simp; (try with_reducible rfl))
                      (repeat (first | simp only [Act.put] | simp only [List.setIfInBounds_toArray] | simp only [List.set_cons_zero] | simp only [List.set_cons_succ]))
                      clear hHeld
                      exact key301 w120 b10 b11 A4 n4 c4 A6 n6 c6 A8 n9 c8 sA sc pA pc ⟨HB9, HLq, HX11, h11, HDq⟩
                    · skip
                      refine wpOp_al (d := some 10) (obj := .cells #[.int .i64 0, .slice none 0 0, .int .i64 0] 29) rfl rfl (run_alL _ rfl) ?_
                      obtain ⟨b10, hbn⟩ : ∃ b, b = wz201.heap.size := ⟨_, rfl⟩
                      rw [← hbn]
                      obtain ⟨w121, hwn⟩ : ∃ w', w' = wz201.alloc (.cells #[.int .i64 0, .slice none 0 0, .int .i64 0] 29) := ⟨_, rfl⟩
                      rw [← hwn]
                      have hb : Below wz201.heap.size wz201 w121 := by rw [hwn]; exact (Below.refl _ _).alloc (Nat.le_refl _) _
                      have HX10 := Lib.hid (show w121.heap[b10]? = some (.cells #[.int .i64 0, .slice none 0 0, .int .i64 0] 29 (0, 0)) by rw [hwn, hbn]; exact heap_alloc_new _ _)
                      have h10 : W7.heap.size ≤ b10 := by have := HB9.out.size; omega
                      have hne : b10 ≠ b11 := by have := lt_heap HX11.out; omega
                      replace HX11 := Lib.hid ((hb.block _ (lt_heap HX11.out)).trans HX11.out)
                      replace HLq := Lib.hid ((HLq.out.mono (M' := NB [b10, b11]) fun b hlt hM hin => by simp only [List.mem_cons, List.not_mem_nil, or_false] at hin; rcases hin with rfl | rfl <;> first | omega | exact hM (by simp)).below hb)
                      replace HB9 := Lib.hid (HB9.out.trans (hb.mono HB9.out.size))
                      clear hb hwn hbn
                      refine hK.out _ _ (HC.out _ HB9.out) (fun hHeld => ?_)
                      clear hK K hHeld
                      (repeat (first | simp only [Act.put] | simp only [List.setIfInBounds_toArray] | simp only [List.set_cons_zero] | simp only [List.set_cons_succ]))
                      exact key211 w121 b10 b11 A4 n4 c4 A6 n6 c6 A8 n9 c8 sA sc pA pc ⟨HB9, HLq, HX10, h10, HX11, h11, hne⟩
                case h2 =>
                  intro wz210 b10 b11 A4 n4 c4 A6 n6 c6 A8 n9 c8 sA sc pA pc ⟨HB9, HLq, HX10, h10⟩
                  (try dsimp only)
                  refine wpAnyH_ready (rs := [8, 14]) (by kernel_rfl) (by simp) ?_
                  refine AllReadyH.cons rfl (fun K hK => ?_) (AllReadyH.cons rfl (fun K hK => ?_) AllReadyH.nil)
                  · skip
                    go_simp
                    go_at_call 21
                    have CO := syncW_any wz210 (NB [b10]) (logOf D (addAll D (addAll D [] xs) ys)) _ HLq.out (fit_of_used (by have := (addAll_fit (addAll_fit (fit_logOf HWK.out) xs) ys); have := okB_sized HWK.out.ok; show used (recs D.sectors ++ addAll D (addAll D [] xs) ys) ≤ 4096; omega)) D _ ((HDk.out.below HB9.out).mono fun b _ hb hin => by simp only [List.mem_cons, List.not_mem_nil, or_false] at hin; omega)
                    rw [HS1.out] at CO
                    refine CO.mono ?_
                    rintro e w122 ⟨lv, dv, rfl, hl, hd, hb⟩
                    clear CO
                    obtain ⟨A8, n9, c8, rfl, hl⟩ := form_logOf hl
                    obtain ⟨sA, sc, pA, pc, rfl, -⟩ := hd.parts
                    replace HLq := Lib.hid (hl.mono (M' := NB [b10]) fun q _ hq => NB.new ((InW.nil _).cons (lt_heap HX10.out)) hq)
                    have HDq := Lib.hid (hd.mono (M' := NB [b10]) fun q _ hq => NB.new ((InW.nil _).cons (lt_heap HX10.out)) hq)
                    clear hl hd
                    replace HX10 := Lib.hid ((hb.block _ (lt_heap HX10.out)).trans HX10.out)
                    replace HB9 := Lib.hid (HB9.out.trans (hb.mono HB9.out.size))
                    clear hb
                    refine hK.out _ _ (HC.out _ HB9.out) (fun hHeld => ?_)
                    clear hK K
                    (repeat (first | simp only [List.setIfInBounds_toArray] | simp only [List.set_cons_zero] | simp only [List.set_cons_succ]))
                    refine takeD (i := 9) (d := some 53) (v := ?_) rfl rfl (by kernel_rfl) (by kernel_rfl) (by kernel_rfl) (fun _ _ _ h => h) (Or.inl ⟨by rfl, ?_⟩) hHeld ?_
                    rotate_left 1
                    focus (intro w hSw; (try dsimp only at hSw); go_simp; (try with_reducible rfl))
                    (repeat (first | simp only [Act.put] | simp only [List.setIfInBounds_toArray] | simp only [List.set_cons_zero] | simp only [List.set_cons_succ]))
                    refine takeD (i := 10) (d := some 63) (v := ?_) rfl rfl (by kernel_rfl) (by kernel_rfl) (by kernel_rfl) (fun _ _ _ h => h) (Or.inl ⟨by rfl, ?_⟩) hHeld ?_
                    rotate_left 1
                    focus (intro w hSw; (try dsimp only at hSw); go_simp; (try with_reducible rfl))
                    (repeat (first | simp only [Act.put] | simp only [List.setIfInBounds_toArray] | simp only [List.set_cons_zero] | simp only [List.set_cons_succ]))
                    refine takeD (i := 11) (d := some 64) (v := ?_) rfl rfl (by kernel_rfl) (by kernel_rfl) (by kernel_rfl) (fun _ _ _ h => h) (Or.inl ⟨by rfl, ?_⟩) hHeld ?_
                    rotate_left 1
                    focus (intro w hSw; (try dsimp only at hSw); go_simp; (try with_reducible rfl))
                    (repeat (first | simp only [Act.put] | simp only [List.setIfInBounds_toArray] | simp only [List.set_cons_zero] | simp only [List.set_cons_succ]))
                    refine takeD (i := 12) (d := some 65) (v := ?_) rfl rfl (by kernel_rfl) (by kernel_rfl) (by kernel_rfl) (fun _ _ _ h => h) (Or.inl ⟨by rfl, ?_⟩) hHeld ?_
                    rotate_left 1
                    focus (intro w hSw; (try dsimp only at hSw); go_simp; (try with_reducible rfl))
                    (repeat (first | simp only [Act.put] | simp only [List.setIfInBounds_toArray] | simp only [List.set_cons_zero] | simp only [List.set_cons_succ]))
                    clear hHeld
                    exact key310 w122 b10 b11 A4 n4 c4 A6 n6 c6 A8 n9 c8 sA sc pA pc ⟨HB9, HLq, HX10, h10, HDq⟩
                  · skip
                    refine wpOp_al (d := some 11) (obj := .cells #[.slice none 0 0, .slice none 0 0, .int .i64 0, .bool false] 25) rfl rfl (run_alD _ rfl) ?_
                    obtain ⟨b11, hbn⟩ : ∃ b, b = wz210.heap.size := ⟨_, rfl⟩
                    rw [← hbn]
                    obtain ⟨w123, hwn⟩ : ∃ w', w' = wz210.alloc (.cells #[.slice none 0 0, .slice none 0 0, .int .i64 0, .bool false] 25) := ⟨_, rfl⟩
                    rw [← hwn]
                    have hb : Below wz210.heap.size wz210 w123 := by rw [hwn]; exact (Below.refl _ _).alloc (Nat.le_refl _) _
                    have HX11 := Lib.hid (show w123.heap[b11]? = some (.cells #[.slice none 0 0, .slice none 0 0, .int .i64 0, .bool false] 25 (0, 0)) by rw [hwn, hbn]; exact heap_alloc_new _ _)
                    have h11 : W7.heap.size ≤ b11 := by have := HB9.out.size; omega
                    have hne : b10 ≠ b11 := by have := lt_heap HX10.out; omega
                    replace HX10 := Lib.hid ((hb.block _ (lt_heap HX10.out)).trans HX10.out)
                    replace HLq := Lib.hid ((HLq.out.mono (M' := NB [b10, b11]) fun b hlt hM hin => by simp only [List.mem_cons, List.not_mem_nil, or_false] at hin; rcases hin with rfl | rfl <;> first | omega | exact hM (by simp)).below hb)
                    replace HB9 := Lib.hid (HB9.out.trans (hb.mono HB9.out.size))
                    clear hb hwn hbn
                    refine hK.out _ _ (HC.out _ HB9.out) (fun hHeld => ?_)
                    clear hK K hHeld
                    (repeat (first | simp only [Act.put] | simp only [List.setIfInBounds_toArray] | simp only [List.set_cons_zero] | simp only [List.set_cons_succ]))
                    exact key211 w123 b10 b11 A4 n4 c4 A6 n6 c6 A8 n9 c8 sA sc pA pc ⟨HB9, HLq, HX10, h10, HX11, h11, hne⟩
              case h2 =>
                intro wz211 b10 b11 A4 n4 c4 A6 n6 c6 A8 n9 c8 sA sc pA pc ⟨HB9, HLq, HX10, h10, HX11, h11, hne⟩
                (try dsimp only)
                refine wpAnyH_ready (rs := [8]) (by kernel_rfl) (by simp) ?_
                refine AllReadyH.cons rfl (fun K hK => ?_) AllReadyH.nil
                · skip
                  go_simp
                  go_at_call 21
                  have CO := syncW_any wz211 (NB [b10, b11]) (logOf D (addAll D (addAll D [] xs) ys)) _ HLq.out (fit_of_used (by have := (addAll_fit (addAll_fit (fit_logOf HWK.out) xs) ys); have := okB_sized HWK.out.ok; show used (recs D.sectors ++ addAll D (addAll D [] xs) ys) ≤ 4096; omega)) D _ ((HDk.out.below HB9.out).mono fun b _ hb hin => by simp only [List.mem_cons, List.not_mem_nil, or_false] at hin; omega)
                  rw [HS1.out] at CO
                  refine CO.mono ?_
                  rintro e w124 ⟨lv, dv, rfl, hl, hd, hb⟩
                  clear CO
                  obtain ⟨A8, n9, c8, rfl, hl⟩ := form_logOf hl
                  obtain ⟨sA, sc, pA, pc, rfl, -⟩ := hd.parts
                  replace HLq := Lib.hid (hl.mono (M' := NB [b10, b11]) fun q _ hq => NB.new (((InW.nil _).cons (lt_heap HX11.out)).cons (lt_heap HX10.out)) hq)
                  have HDq := Lib.hid (hd.mono (M' := NB [b10, b11]) fun q _ hq => NB.new (((InW.nil _).cons (lt_heap HX11.out)).cons (lt_heap HX10.out)) hq)
                  clear hl hd
                  replace HX10 := Lib.hid ((hb.block _ (lt_heap HX10.out)).trans HX10.out)
                  replace HX11 := Lib.hid ((hb.block _ (lt_heap HX11.out)).trans HX11.out)
                  replace HB9 := Lib.hid (HB9.out.trans (hb.mono HB9.out.size))
                  clear hb
                  refine hK.out _ _ (HC.out _ HB9.out) (fun hHeld => ?_)
                  clear hK K
                  (repeat (first | simp only [List.setIfInBounds_toArray] | simp only [List.set_cons_zero] | simp only [List.set_cons_succ]))
                  refine takeD (i := 9) (d := some 53) (v := ?_) rfl rfl (by kernel_rfl) (by kernel_rfl) (by kernel_rfl) (fun _ _ _ h => h) (Or.inl ⟨by rfl, ?_⟩) hHeld ?_
                  rotate_left 1
                  focus (intro w hSw; (try dsimp only at hSw); go_simp; (try with_reducible rfl))
                  (repeat (first | simp only [Act.put] | simp only [List.setIfInBounds_toArray] | simp only [List.set_cons_zero] | simp only [List.set_cons_succ]))
                  refine takeD (i := 10) (d := some 63) (v := ?_) rfl rfl (by kernel_rfl) (by kernel_rfl) (by kernel_rfl) (fun _ _ _ h => h) (Or.inl ⟨by rfl, ?_⟩) hHeld ?_
                  rotate_left 1
                  focus (intro w hSw; (try dsimp only at hSw); go_simp; (try with_reducible rfl))
                  (repeat (first | simp only [Act.put] | simp only [List.setIfInBounds_toArray] | simp only [List.set_cons_zero] | simp only [List.set_cons_succ]))
                  refine takeD (i := 11) (d := some 64) (v := ?_) rfl rfl (by kernel_rfl) (by kernel_rfl) (by kernel_rfl) (fun _ _ _ h => h) (Or.inl ⟨by rfl, ?_⟩) hHeld ?_
                  rotate_left 1
                  focus (intro w hSw; (try dsimp only at hSw); go_simp; (try with_reducible rfl))
                  (repeat (first | simp only [Act.put] | simp only [List.setIfInBounds_toArray] | simp only [List.set_cons_zero] | simp only [List.set_cons_succ]))
                  refine takeD (i := 12) (d := some 65) (v := ?_) rfl rfl (by kernel_rfl) (by kernel_rfl) (by kernel_rfl) (fun _ _ _ h => h) (Or.inl ⟨by rfl, ?_⟩) hHeld ?_
                  rotate_left 1
                  focus (intro w hSw; (try dsimp only at hSw); go_simp; (try with_reducible rfl))
                  (repeat (first | simp only [Act.put] | simp only [List.setIfInBounds_toArray] | simp only [List.set_cons_zero] | simp only [List.set_cons_succ]))
                  clear hHeld
                  exact key311 w124 b10 b11 A4 n4 c4 A6 n6 c6 A8 n9 c8 sA sc pA pc ⟨HB9, HLq, HX10, h10, HX11, h11, hne, HDq⟩
            case h2 =>
              intro wz300 b10 b11 A4 n4 c4 A6 n6 c6 A8 n9 c8 sA sc pA pc ⟨HB9, HLq, HDq⟩
              (try dsimp only)
              refine wpAnyH_ready (rs := [13, 14]) (by kernel_rfl) (by simp) ?_
              refine AllReadyH.cons rfl (fun K hK => ?_) (AllReadyH.cons rfl (fun K hK => ?_) AllReadyH.nil)
              · skip
                refine wpOp_al (d := some 10) (obj := .cells #[.int .i64 0, .slice none 0 0, .int .i64 0] 29) rfl rfl (run_alL _ rfl) ?_
                obtain ⟨b10, hbn⟩ : ∃ b, b = wz300.heap.size := ⟨_, rfl⟩
                rw [← hbn]
                obtain ⟨w125, hwn⟩ : ∃ w', w' = wz300.alloc (.cells #[.int .i64 0, .slice none 0 0, .int .i64 0] 29) := ⟨_, rfl⟩
                rw [← hwn]
                have hb : Below wz300.heap.size wz300 w125 := by rw [hwn]; exact (Below.refl _ _).alloc (Nat.le_refl _) _
                have HX10 := Lib.hid (show w125.heap[b10]? = some (.cells #[.int .i64 0, .slice none 0 0, .int .i64 0] 29 (0, 0)) by rw [hwn, hbn]; exact heap_alloc_new _ _)
                have h10 : W7.heap.size ≤ b10 := by have := HB9.out.size; omega
                replace HLq := Lib.hid ((HLq.out.mono (M' := NB [b10]) fun b hlt hM hin => by simp only [List.mem_cons, List.not_mem_nil, or_false] at hin; rcases hin with rfl <;> first | omega | exact hM (by simp)).below hb)
                replace HDq := Lib.hid ((HDq.out.mono (M' := NB [b10]) fun b hlt hM hin => by simp only [List.mem_cons, List.not_mem_nil, or_false] at hin; rcases hin with rfl <;> first | omega | exact hM (by simp)).below hb)
                replace HB9 := Lib.hid (HB9.out.trans (hb.mono HB9.out.size))
                clear hb hwn hbn
                refine hK.out _ _ (HC.out _ HB9.out) (fun hHeld => ?_)
                clear hK K hHeld
                (repeat (first | simp only [Act.put] | simp only [List.setIfInBounds_toArray] | simp only [List.set_cons_zero] | simp only [List.set_cons_succ]))
                exact key310 w125 b10 b11 A4 n4 c4 A6 n6 c6 A8 n9 c8 sA sc pA pc ⟨HB9, HLq, HX10, h10, HDq⟩
              · skip
                refine wpOp_al (d := some 11) (obj := .cells #[.slice none 0 0, .slice none 0 0, .int .i64 0, .bool false] 25) rfl rfl (run_alD _ rfl) ?_
                obtain ⟨b11, hbn⟩ : ∃ b, b = wz300.heap.size := ⟨_, rfl⟩
                rw [← hbn]
                obtain ⟨w126, hwn⟩ : ∃ w', w' = wz300.alloc (.cells #[.slice none 0 0, .slice none 0 0, .int .i64 0, .bool false] 25) := ⟨_, rfl⟩
                rw [← hwn]
                have hb : Below wz300.heap.size wz300 w126 := by rw [hwn]; exact (Below.refl _ _).alloc (Nat.le_refl _) _
                have HX11 := Lib.hid (show w126.heap[b11]? = some (.cells #[.slice none 0 0, .slice none 0 0, .int .i64 0, .bool false] 25 (0, 0)) by rw [hwn, hbn]; exact heap_alloc_new _ _)
                have h11 : W7.heap.size ≤ b11 := by have := HB9.out.size; omega
                replace HLq := Lib.hid ((HLq.out.mono (M' := NB [b11]) fun b hlt hM hin => by simp only [List.mem_cons, List.not_mem_nil, or_false] at hin; rcases hin with rfl <;> first | omega | exact hM (by simp)).below hb)
                replace HDq := Lib.hid ((HDq.out.mono (M' := NB [b11]) fun b hlt hM hin => by simp only [List.mem_cons, List.not_mem_nil, or_false] at hin; rcases hin with rfl <;> first | omega | exact hM (by simp)).below hb)
                replace HB9 := Lib.hid (HB9.out.trans (hb.mono HB9.out.size))
                clear hb hwn hbn
                refine hK.out _ _ (HC.out _ HB9.out) (fun hHeld => ?_)
                clear hK K hHeld
                (repeat (first | simp only [Act.put] | simp only [List.setIfInBounds_toArray] | simp only [List.set_cons_zero] | simp only [List.set_cons_succ]))
                exact key301 w126 b10 b11 A4 n4 c4 A6 n6 c6 A8 n9 c8 sA sc pA pc ⟨HB9, HLq, HX11, h11, HDq⟩
          case h2 =>
            intro wz301 b10 b11 A4 n4 c4 A6 n6 c6 A8 n9 c8 sA sc pA pc ⟨HB9, HLq, HX11, h11, HDq⟩
            (try dsimp only)
            refine wpAnyH_ready (rs := [13]) (by kernel_rfl) (by simp) ?_
            refine AllReadyH.cons rfl (fun K hK => ?_) AllReadyH.nil
            · skip
              refine wpOp_al (d := some 10) (obj := .cells #[.int .i64 0, .slice none 0 0, .int .i64 0] 29) rfl rfl (run_alL _ rfl) ?_
              obtain ⟨b10, hbn⟩ : ∃ b, b = wz301.heap.size := ⟨_, rfl⟩
              rw [← hbn]
              obtain ⟨w127, hwn⟩ : ∃ w', w' = wz301.alloc (.cells #[.int .i64 0, .slice none 0 0, .int .i64 0] 29) := ⟨_, rfl⟩
              rw [← hwn]
              have hb : Below wz301.heap.size wz301 w127 := by rw [hwn]; exact (Below.refl _ _).alloc (Nat.le_refl _) _
              have HX10 := Lib.hid (show w127.heap[b10]? = some (.cells #[.int .i64 0, .slice none 0 0, .int .i64 0] 29 (0, 0)) by rw [hwn, hbn]; exact heap_alloc_new _ _)
              have h10 : W7.heap.size ≤ b10 := by have := HB9.out.size; omega
              have hne : b10 ≠ b11 := by have := lt_heap HX11.out; omega
              replace HX11 := Lib.hid ((hb.block _ (lt_heap HX11.out)).trans HX11.out)
              replace HLq := Lib.hid ((HLq.out.mono (M' := NB [b10, b11]) fun b hlt hM hin => by simp only [List.mem_cons, List.not_mem_nil, or_false] at hin; rcases hin with rfl | rfl <;> first | omega | exact hM (by simp)).below hb)
              replace HDq := Lib.hid ((HDq.out.mono (M' := NB [b10, b11]) fun b hlt hM hin => by simp only [List.mem_cons, List.not_mem_nil, or_false] at hin; rcases hin with rfl | rfl <;> first | omega | exact hM (by simp)).below hb)
              replace HB9 := Lib.hid (HB9.out.trans (hb.mono HB9.out.size))
              clear hb hwn hbn
              refine hK.out _ _ (HC.out _ HB9.out) (fun hHeld => ?_)
              clear hK K hHeld
              (repeat (first | simp only [Act.put] | simp only [List.setIfInBounds_toArray] | simp only [List.set_cons_zero] | simp only [List.set_cons_succ]))
              exact key311 w127 b10 b11 A4 n4 c4 A6 n6 c6 A8 n9 c8 sA sc pA pc ⟨HB9, HLq, HX10, h10, HX11, h11, hne, HDq⟩
        case h2 =>
          intro wz310 b10 b11 A4 n4 c4 A6 n6 c6 A8 n9 c8 sA sc pA pc ⟨HB9, HLq, HX10, h10, HDq⟩
          (try dsimp only)
          refine wpAnyH_ready (rs := [14]) (by kernel_rfl) (by simp) ?_
          refine AllReadyH.cons rfl (fun K hK => ?_) AllReadyH.nil
          · skip
            refine wpOp_al (d := some 11) (obj := .cells #[.slice none 0 0, .slice none 0 0, .int .i64 0, .bool false] 25) rfl rfl (run_alD _ rfl) ?_
            obtain ⟨b11, hbn⟩ : ∃ b, b = wz310.heap.size := ⟨_, rfl⟩
            rw [← hbn]
            obtain ⟨w128, hwn⟩ : ∃ w', w' = wz310.alloc (.cells #[.slice none 0 0, .slice none 0 0, .int .i64 0, .bool false] 25) := ⟨_, rfl⟩
            rw [← hwn]
            have hb : Below wz310.heap.size wz310 w128 := by rw [hwn]; exact (Below.refl _ _).alloc (Nat.le_refl _) _
            have HX11 := Lib.hid (show w128.heap[b11]? = some (.cells #[.slice none 0 0, .slice none 0 0, .int .i64 0, .bool false] 25 (0, 0)) by rw [hwn, hbn]; exact heap_alloc_new _ _)
            have h11 : W7.heap.size ≤ b11 := by have := HB9.out.size; omega
            have hne : b10 ≠ b11 := by have := lt_heap HX10.out; omega
            replace HX10 := Lib.hid ((hb.block _ (lt_heap HX10.out)).trans HX10.out)
            replace HLq := Lib.hid ((HLq.out.mono (M' := NB [b10, b11]) fun b hlt hM hin => by simp only [List.mem_cons, List.not_mem_nil, or_false] at hin; rcases hin with rfl | rfl <;> first | omega | exact hM (by simp)).below hb)
            replace HDq := Lib.hid ((HDq.out.mono (M' := NB [b10, b11]) fun b hlt hM hin => by simp only [List.mem_cons, List.not_mem_nil, or_false] at hin; rcases hin with rfl | rfl <;> first | omega | exact hM (by simp)).below hb)
            replace HB9 := Lib.hid (HB9.out.trans (hb.mono HB9.out.size))
            clear hb hwn hbn
            refine hK.out _ _ (HC.out _ HB9.out) (fun hHeld => ?_)
            clear hK K hHeld
            (repeat (first | simp only [Act.put] | simp only [List.setIfInBounds_toArray] | simp only [List.set_cons_zero] | simp only [List.set_cons_succ]))
            exact key311 w128 b10 b11 A4 n4 c4 A6 n6 c6 A8 n9 c8 sA sc pA pc ⟨HB9, HLq, HX10, h10, HX11, h11, hne, HDq⟩
      case h2 =>
        intro wz311 b10 b11 A4 n4 c4 A6 n6 c6 A8 n9 c8 sA sc pA pc ⟨HB9, HLq, HX10, h10, HX11, h11, hne, HDq⟩
        (try dsimp only)
        have HZ : Hid (ZS W7 b10 b11 C A8 n9 c8 sA sc pA pc wz311) := Lib.hid ⟨HB9.out, HX10.out, HX11.out, HLq.out, HDq.out, h10, h11, hne⟩
        clear HLq HDq
        have hl10 := lt_heap HZ.out.z10
        have hl11 := lt_heap HZ.out.z11
        have g0 : wz311.cell? ⟨b10, 0, none⟩ = some (.int .i64 0) := cell_of (j := 0) HZ.out.z10 rfl
        have f0 : wz311.frozen? ⟨b10, 0, none⟩ = false := frz8 HZ.out.z10
        have g1 : wz311.cell? ⟨b10, 1, none⟩ = some (.slice none 0 0) := cell_of (j := 1) HZ.out.z10 rfl
        have f1 : wz311.frozen? ⟨b10, 1, none⟩ = false := frz8 HZ.out.z10
        have g2 : wz311.cell? ⟨b10, 2, none⟩ = some (.int .i64 0) := cell_of (j := 2) HZ.out.z10 rfl
        have f2 : wz311.frozen? ⟨b10, 2, none⟩ = false := frz8 HZ.out.z10
        have k0 : wz311.cell? ⟨b11, 0, none⟩ = some (.slice none 0 0) := cell_of (j := 0) HZ.out.z11 rfl
        have y0 : wz311.frozen? ⟨b11, 0, none⟩ = false := frz8 HZ.out.z11
        have k1 : wz311.cell? ⟨b11, 1, none⟩ = some (.slice none 0 0) := cell_of (j := 1) HZ.out.z11 rfl
        have y1 : wz311.frozen? ⟨b11, 1, none⟩ = false := frz8 HZ.out.z11
        have k2 : wz311.cell? ⟨b11, 2, none⟩ = some (.int .i64 0) := cell_of (j := 2) HZ.out.z11 rfl
        have y2 : wz311.frozen? ⟨b11, 2, none⟩ = false := frz8 HZ.out.z11
        have k3 : wz311.cell? ⟨b11, 3, none⟩ = some (.bool false) := cell_of (j := 3) HZ.out.z11 rfl
        have y3 : wz311.frozen? ⟨b11, 3, none⟩ = false := frz8 HZ.out.z11
        refine wpAnyH_ready (rs := [15]) (by kernel_rfl) (by simp) ?_
        refine AllReadyH.cons rfl (fun K hK => ?_) AllReadyH.nil
        go_simp
        refine hK.out _ _ (HC.out _ (by repeat (first | with_reducible exact HB9.out | refine Below.setCell ?_ h10 _))) (fun hHeld => ?_)
        clear hK K
        (repeat (first | simp only [Act.put] | simp only [List.setIfInBounds_toArray] | simp only [List.set_cons_zero] | simp only [List.set_cons_succ]))
        refine wpAnyH_ready (rs := [16]) (by kernel_rfl) (by simp) ?_
        refine AllReadyH.cons rfl (fun K hK => ?_) AllReadyH.nil
        go_simp
        refine hK.out _ _ (HC.out _ (by repeat (first | with_reducible exact HB9.out | refine Below.setCell ?_ h10 _ | refine Below.setCell ?_ h11 _))) (fun hHeld => ?_)
        clear hK K
        (repeat (first | simp only [Act.put] | simp only [List.setIfInBounds_toArray] | simp only [List.set_cons_zero] | simp only [List.set_cons_succ]))
        refine takeD (i := 17) (d := some 12) (v := ?_) rfl rfl (by kernel_rfl) (by kernel_rfl) (by kernel_rfl) (fun _ _ _ h => h) (Or.inl ⟨by rfl, ?_⟩) hHeld ?_
        rotate_left 1
        focus (intro w hSw; (try dsimp only at hSw); go_simp; (try with_reducible rfl))
        (repeat (first | simp only [Act.put] | simp only [List.setIfInBounds_toArray] | simp only [List.set_cons_zero] | simp only [List.set_cons_succ]))
        refine wpAnyH_done (by kernel_rfl) ?_ _
        go_wp2_with fail
        go_meet
        case rel => exact ⟨_, _, _, _, _, _, _, _, _, rfl, rfl, rfl, Lib.hid HZ.out.store⟩
    case rest =>
      obtain ⟨p10, q10, A10, m10, c10, sA10, sc10, pA10, pc10, rfl, rfl, rfl, HS⟩ := hcut
      go_upto_region 11 with fail
      refine nameC fun W10 hW => ?_
      have HZ10 := Lib.hid (show BS W7 p10 q10 C A10 m10 c10 sA10 sc10 pA10 pc10 W10 by rw [hW.out]; exact HS.out)
      have hb := HZ10.out.below
      replace HX5 := Lib.hid ((hb.block _ (lt_heap HX5.out)).trans HX5.out)
      replace HX8 := Lib.hid ((hb.block _ (lt_heap HX8.out)).trans HX8.out)
      replace HD3 := Lib.hid (HD3.out.below hb)
      replace HL6 := Lib.hid (HL6.out.below hb)
      replace HB := Lib.hid (HB.out.trans (hb.mono HB.out.size))
      clear hW HS hb
      clear c0 c1 c2 c3 l0 l1 l2 hq5 hq8 HLq HDk HS1
      have c0 := cell_of (j := 0) HX5.out rfl
      have c1 := cell_of (j := 1) HX5.out rfl
      have c2 := cell_of (j := 2) HX5.out rfl
      have c3 := cell_of (j := 3) HX5.out rfl
      have l0 := cell_of (j := 0) HX8.out rfl
      have l1 := cell_of (j := 1) HX8.out rfl
      have l2 := cell_of (j := 2) HX8.out rfl
      have hq5 := lt_heap HX5.out
      have hq8 := lt_heap HX8.out
      have HLq := Lib.hid (HL6.out.mono (M' := NB []) fun _ _ _ => by simp [NB])
      have HDk := Lib.hid (HD3.out.mono (M' := fun b => b < W10.heap.size) fun b hb _ => hb)
      have HS1 := Lib.hid (show syncL (logOf D (addAll D [] xs)) D = (logOf X [], X, 0) by have := HST.out.one; rwa [← HD.out] at this)
      go_cut [13, 14, 15] (fun s10 s11 s12 W => ∃ b10 b11 A n c sA sc pA pc, s10 = .pointer (some ⟨b10, 0, none⟩) ∧ s11 = .pointer (some ⟨b11, 0, none⟩) ∧ s12 = .int .i64 0 ∧ Hid (BS W10 b10 b11 X A n c sA sc pA pc W))
      case first =>
        have HC := fun (W : World) (hW : Below W10.heap.size W10 W) => show (fun w' => w'.cell? ⟨w3.heap.size, 0, none⟩ = some (.slice sA3 D.sectors.length sc3) ∧ w'.cell? ⟨w3.heap.size, 1, none⟩ = some (.slice pA3 D.pending.length pc3) ∧ w'.cell? ⟨w3.heap.size, 2, none⟩ = some (.int .i64 D.left) ∧ w'.cell? ⟨w3.heap.size, 3, none⟩ = some (.bool D.stopped) ∧ w'.cell? ⟨n8, 0, none⟩ = some (.int .i64 (D.sectors.length : Int)) ∧ w'.cell? ⟨n8, 1, none⟩ = some (.slice rA rn rc) ∧ w'.cell? ⟨n8, 2, none⟩ = some (.int .i64 ((recs D.sectors).length : Int))) W from ⟨(hW.cell (p := ⟨w3.heap.size, 0, none⟩) hq5).trans c0, (hW.cell (p := ⟨w3.heap.size, 1, none⟩) hq5).trans c1, (hW.cell (p := ⟨w3.heap.size, 2, none⟩) hq5).trans c2, (hW.cell (p := ⟨w3.heap.size, 3, none⟩) hq5).trans c3, (hW.cell (p := ⟨n8, 0, none⟩) hq8).trans l0, (hW.cell (p := ⟨n8, 1, none⟩) hq8).trans l1, (hW.cell (p := ⟨n8, 2, none⟩) hq8).trans l2⟩
        replace HC := Lib.hid HC
        refine wp_region_held_drew (S := (fun w' => w'.cell? ⟨w3.heap.size, 0, none⟩ = some (.slice sA3 D.sectors.length sc3) ∧ w'.cell? ⟨w3.heap.size, 1, none⟩ = some (.slice pA3 D.pending.length pc3) ∧ w'.cell? ⟨w3.heap.size, 2, none⟩ = some (.int .i64 D.left) ∧ w'.cell? ⟨w3.heap.size, 3, none⟩ = some (.bool D.stopped) ∧ w'.cell? ⟨n8, 0, none⟩ = some (.int .i64 (D.sectors.length : Int)) ∧ w'.cell? ⟨n8, 1, none⟩ = some (.slice rA rn rc) ∧ w'.cell? ⟨n8, 2, none⟩ = some (.int .i64 ((recs D.sectors).length : Int)))) (by kernel_rfl) (HC.out _ (Below.drew (Below.refl _ _))) (fun hHeld => ?_)
        change wpAnyH _ _ _ _ _ 15 #[false, false, false, false, false, false, false, false, false, false, false, false, false, false, false] _ W10.drew
        refine takeD (i := 0) (d := some 67) (v := ?_) rfl rfl (by kernel_rfl) (by kernel_rfl) (by kernel_rfl) (fun _ _ _ h => h) (Or.inl ⟨by rfl, ?_⟩) hHeld ?_
        rotate_left 1
        focus (intro w hSw; (try dsimp only at hSw); go_simp; (try with_reducible rfl))
        (repeat (first | simp only [Act.put] | simp only [List.setIfInBounds_toArray] | simp only [List.set_cons_zero] | simp only [List.set_cons_succ]))
        refine takeD (i := 1) (d := some 68) (v := ?_) rfl rfl (by kernel_rfl) (by kernel_rfl) (by kernel_rfl) (fun _ _ _ h => h) (Or.inl ⟨by rfl, ?_⟩) hHeld ?_
        rotate_left 1
        focus (intro w hSw; (try dsimp only at hSw); go_simp; (try with_reducible rfl))
        (repeat (first | simp only [Act.put] | simp only [List.setIfInBounds_toArray] | simp only [List.set_cons_zero] | simp only [List.set_cons_succ]))
        refine takeD (i := 2) (d := some 69) (v := ?_) rfl rfl (by kernel_rfl) (by kernel_rfl) (by kernel_rfl) (fun _ _ _ h => h) (Or.inl ⟨by rfl, ?_⟩) hHeld ?_
        rotate_left 1
        focus (intro w hSw; (try dsimp only at hSw); go_simp; (try with_reducible rfl))
        (repeat (first | simp only [Act.put] | simp only [List.setIfInBounds_toArray] | simp only [List.set_cons_zero] | simp only [List.set_cons_succ]))
        refine takeD (i := 4) (d := some 71) (v := ?_) rfl rfl (by kernel_rfl) (by kernel_rfl) (by kernel_rfl) (fun _ _ _ h => h) (Or.inl ⟨by rfl, ?_⟩) hHeld ?_
        rotate_left 1
        focus (intro w hSw; (try dsimp only at hSw); go_simp; (try with_reducible rfl))
        (repeat (first | simp only [Act.put] | simp only [List.setIfInBounds_toArray] | simp only [List.set_cons_zero] | simp only [List.set_cons_succ]))
        refine nameG (w := W10.drew) fun wq hwq => ?_
        have HB9 : Hid (Below W10.heap.size W10 wq) := Lib.hid (by rw [hwq.out]; exact Below.drew (Below.refl _ _))
        replace HLq := Lib.hid (HLq.out.below (show Below W10.heap.size W10 wq from HB9.out))
        clear hHeld hwq
        apply join2 (F := fun wN b10 b11 A4 n4 c4 A8 n9 c8 sA sc pA pc => Hid (Below W10.heap.size W10 wN) ∧ Hid (IsLog wN (NB [b10, b11]) (.agg #[.int .i64 (X.sectors.length : Int), .slice A8 n9 c8, .int .i64 ((recs X.sectors).length : Int)]) (logOf X [])) ∧ Hid (wN.heap[b10]? = some (.cells #[.int .i64 0, .slice none 0 0, .int .i64 0] 29 (0, 0))) ∧ W10.heap.size ≤ b10 ∧ Hid (wN.heap[b11]? = some (.cells #[.slice none 0 0, .slice none 0 0, .int .i64 0, .bool false] 25 (0, 0))) ∧ W10.heap.size ≤ b11 ∧ b10 ≠ b11 ∧ Hid (IsDisk wN (NB [b10, b11]) (.agg #[.slice sA X.sectors.length sc, .slice pA X.pending.length pc, .int .i64 X.left, .bool X.stopped]) X))
        case h1 =>
          intro key211
          apply join2 (F := fun wN b10 b11 A4 n4 c4 A8 n9 c8 sA sc pA pc => Hid (Below W10.heap.size W10 wN) ∧ Hid (IsLog wN (NB [b10]) (.agg #[.int .i64 (X.sectors.length : Int), .slice A8 n9 c8, .int .i64 ((recs X.sectors).length : Int)]) (logOf X [])) ∧ Hid (wN.heap[b10]? = some (.cells #[.int .i64 0, .slice none 0 0, .int .i64 0] 29 (0, 0))) ∧ W10.heap.size ≤ b10 ∧ Hid (IsDisk wN (NB [b10]) (.agg #[.slice sA X.sectors.length sc, .slice pA X.pending.length pc, .int .i64 X.left, .bool X.stopped]) X))
          case h1 =>
            intro key210
            apply join2 (F := fun wN b10 b11 A4 n4 c4 A8 n9 c8 sA sc pA pc => Hid (Below W10.heap.size W10 wN) ∧ Hid (IsLog wN (NB [b11]) (.agg #[.int .i64 (X.sectors.length : Int), .slice A8 n9 c8, .int .i64 ((recs X.sectors).length : Int)]) (logOf X [])) ∧ Hid (wN.heap[b11]? = some (.cells #[.slice none 0 0, .slice none 0 0, .int .i64 0, .bool false] 25 (0, 0))) ∧ W10.heap.size ≤ b11 ∧ Hid (IsDisk wN (NB [b11]) (.agg #[.slice sA X.sectors.length sc, .slice pA X.pending.length pc, .int .i64 X.left, .bool X.stopped]) X))
            case h1 =>
              intro key201
              apply join2 (F := fun wN b10 b11 A4 n4 c4 A8 n9 c8 sA sc pA pc => Hid (Below W10.heap.size W10 wN) ∧ Hid (IsLog wN (NB []) (.agg #[.int .i64 (X.sectors.length : Int), .slice A8 n9 c8, .int .i64 ((recs X.sectors).length : Int)]) (logOf X [])) ∧ Hid (IsDisk wN (NB []) (.agg #[.slice sA X.sectors.length sc, .slice pA X.pending.length pc, .int .i64 X.left, .bool X.stopped]) X))
              case h1 =>
                intro key200
                apply join2 (F := fun wN b10 b11 A4 n4 c4 A8 n9 c8 sA sc pA pc => Hid (Below W10.heap.size W10 wN) ∧ Hid (IsLog wN (NB [b10, b11]) (.agg #[.int .i64 (D.sectors.length : Int), .slice A4 n4 c4, .int .i64 ((recs D.sectors).length : Int)]) (logOf D (addAll D [] xs))) ∧ Hid (wN.heap[b10]? = some (.cells #[.int .i64 0, .slice none 0 0, .int .i64 0] 29 (0, 0))) ∧ W10.heap.size ≤ b10 ∧ Hid (wN.heap[b11]? = some (.cells #[.slice none 0 0, .slice none 0 0, .int .i64 0, .bool false] 25 (0, 0))) ∧ W10.heap.size ≤ b11 ∧ b10 ≠ b11)
                case h1 =>
                  intro key111
                  apply join2 (F := fun wN b10 b11 A4 n4 c4 A8 n9 c8 sA sc pA pc => Hid (Below W10.heap.size W10 wN) ∧ Hid (IsLog wN (NB [b10]) (.agg #[.int .i64 (D.sectors.length : Int), .slice A4 n4 c4, .int .i64 ((recs D.sectors).length : Int)]) (logOf D (addAll D [] xs))) ∧ Hid (wN.heap[b10]? = some (.cells #[.int .i64 0, .slice none 0 0, .int .i64 0] 29 (0, 0))) ∧ W10.heap.size ≤ b10)
                  case h1 =>
                    intro key110
                    apply join2 (F := fun wN b10 b11 A4 n4 c4 A8 n9 c8 sA sc pA pc => Hid (Below W10.heap.size W10 wN) ∧ Hid (IsLog wN (NB [b11]) (.agg #[.int .i64 (D.sectors.length : Int), .slice A4 n4 c4, .int .i64 ((recs D.sectors).length : Int)]) (logOf D (addAll D [] xs))) ∧ Hid (wN.heap[b11]? = some (.cells #[.slice none 0 0, .slice none 0 0, .int .i64 0, .bool false] 25 (0, 0))) ∧ W10.heap.size ≤ b11)
                    case h1 =>
                      intro key101
                      apply join2 (F := fun wN b10 b11 A4 n4 c4 A8 n9 c8 sA sc pA pc => Hid (Below W10.heap.size W10 wN) ∧ Hid (IsLog wN (NB []) (.agg #[.int .i64 (D.sectors.length : Int), .slice A4 n4 c4, .int .i64 ((recs D.sectors).length : Int)]) (logOf D (addAll D [] xs))))
                      case h1 =>
                        intro key100
                        apply join2 (F := fun wN b10 b11 A4 n4 c4 A8 n9 c8 sA sc pA pc => Hid (Below W10.heap.size W10 wN) ∧ Hid (IsLog wN (NB [b10, b11]) (.agg #[.int .i64 (D.sectors.length : Int), .slice rA rn rc, .int .i64 ((recs D.sectors).length : Int)]) (logOf D [])) ∧ Hid (wN.heap[b10]? = some (.cells #[.int .i64 0, .slice none 0 0, .int .i64 0] 29 (0, 0))) ∧ W10.heap.size ≤ b10 ∧ Hid (wN.heap[b11]? = some (.cells #[.slice none 0 0, .slice none 0 0, .int .i64 0, .bool false] 25 (0, 0))) ∧ W10.heap.size ≤ b11 ∧ b10 ≠ b11)
                        case h1 =>
                          intro key011
                          apply join2 (F := fun wN b10 b11 A4 n4 c4 A8 n9 c8 sA sc pA pc => Hid (Below W10.heap.size W10 wN) ∧ Hid (IsLog wN (NB [b10]) (.agg #[.int .i64 (D.sectors.length : Int), .slice rA rn rc, .int .i64 ((recs D.sectors).length : Int)]) (logOf D [])) ∧ Hid (wN.heap[b10]? = some (.cells #[.int .i64 0, .slice none 0 0, .int .i64 0] 29 (0, 0))) ∧ W10.heap.size ≤ b10)
                          case h1 =>
                            intro key010
                            apply join2 (F := fun wN b10 b11 A4 n4 c4 A8 n9 c8 sA sc pA pc => Hid (Below W10.heap.size W10 wN) ∧ Hid (IsLog wN (NB [b11]) (.agg #[.int .i64 (D.sectors.length : Int), .slice rA rn rc, .int .i64 ((recs D.sectors).length : Int)]) (logOf D [])) ∧ Hid (wN.heap[b11]? = some (.cells #[.slice none 0 0, .slice none 0 0, .int .i64 0, .bool false] 25 (0, 0))) ∧ W10.heap.size ≤ b11)
                            case h1 =>
                              intro key001
                              obtain ⟨b10, b11, A4, n4, c4, A8, n9, c8, sA, sc, pA, pc, -⟩ : ∃ (b10 : Nat) (b11 : Nat) (A4 : Option Addr) (n4 : Nat) (c4 : Nat) (A8 : Option Addr) (n9 : Nat) (c8 : Nat) (sA : Option Addr) (sc : Nat) (pA : Option Addr) (pc : Nat), True := ⟨0, 0, none, 0, 0, none, 0, 0, none, 0, none, 0, trivial⟩
                              refine wpAnyH_ready (rs := [3, 10, 11]) (by kernel_rfl) (by simp) ?_
                              refine AllReadyH.cons rfl (fun K hK => ?_) (AllReadyH.cons rfl (fun K hK => ?_) (AllReadyH.cons rfl (fun K hK => ?_) AllReadyH.nil))
                              · skip
                                go_simp
                                go_at_call 28
                                refine (add_any wq (NB []) D ([]) _ HLq.out HWK.out.ok (fit_logOf HWK.out) xs _ ⟨aA, ac, rfl, HCA.out.1, HCA.out.2, (HAR.out.keep fun p _ hp => (HB.out.trans (HB9.out.mono HB.out.size)).cell hp).mono fun b _ hb hin => by cases hin⟩ HFA.out).mono ?_
                                rintro e w101 ⟨v9, rfl, hl, hb⟩
                                obtain ⟨A4, n4, c4, rfl, hl⟩ := form_logOf hl
                                replace HLq := Lib.hid (hl.mono (M' := NB []) fun q _ hq => NB.new (InW.nil _) hq)
                                clear hl
                                replace HB9 := Lib.hid (HB9.out.trans (hb.mono HB9.out.size))
                                clear hb
                                refine hK.out _ _ (HC.out _ HB9.out) (fun hHeld => ?_)
                                clear hK K
                                (repeat (first | simp only [Act.put] | simp only [List.setIfInBounds_toArray] | simp only [List.set_cons_zero] | simp only [List.set_cons_succ]))
                                clear hHeld
                                exact key100 w101 b10 b11 A4 n4 c4 A8 n9 c8 sA sc pA pc ⟨HB9, HLq⟩
                              · skip
                                refine wpOp_al (d := some 13) (obj := .cells #[.int .i64 0, .slice none 0 0, .int .i64 0] 29) rfl rfl (run_alL _ rfl) ?_
                                obtain ⟨b10, hbn⟩ : ∃ b, b = wq.heap.size := ⟨_, rfl⟩
                                rw [← hbn]
                                obtain ⟨w102, hwn⟩ : ∃ w', w' = wq.alloc (.cells #[.int .i64 0, .slice none 0 0, .int .i64 0] 29) := ⟨_, rfl⟩
                                rw [← hwn]
                                have hb : Below wq.heap.size wq w102 := by rw [hwn]; exact (Below.refl _ _).alloc (Nat.le_refl _) _
                                have HX10 := Lib.hid (show w102.heap[b10]? = some (.cells #[.int .i64 0, .slice none 0 0, .int .i64 0] 29 (0, 0)) by rw [hwn, hbn]; exact heap_alloc_new _ _)
                                have h10 : W10.heap.size ≤ b10 := by have := HB9.out.size; omega
                                replace HLq := Lib.hid ((HLq.out.mono (M' := NB [b10]) fun b hlt hM hin => by simp only [List.mem_cons, List.not_mem_nil, or_false] at hin; rcases hin with rfl <;> first | omega | exact hM (by simp)).below hb)
                                replace HB9 := Lib.hid (HB9.out.trans (hb.mono HB9.out.size))
                                clear hb hwn hbn
                                refine hK.out _ _ (HC.out _ HB9.out) (fun hHeld => ?_)
                                clear hK K hHeld
                                (repeat (first | simp only [Act.put] | simp only [List.setIfInBounds_toArray] | simp only [List.set_cons_zero] | simp only [List.set_cons_succ]))
                                exact key010 w102 b10 b11 A4 n4 c4 A8 n9 c8 sA sc pA pc ⟨HB9, HLq, HX10, h10⟩
                              · skip
                                refine wpOp_al (d := some 14) (obj := .cells #[.slice none 0 0, .slice none 0 0, .int .i64 0, .bool false] 25) rfl rfl (run_alD _ rfl) ?_
                                obtain ⟨b11, hbn⟩ : ∃ b, b = wq.heap.size := ⟨_, rfl⟩
                                rw [← hbn]
                                obtain ⟨w103, hwn⟩ : ∃ w', w' = wq.alloc (.cells #[.slice none 0 0, .slice none 0 0, .int .i64 0, .bool false] 25) := ⟨_, rfl⟩
                                rw [← hwn]
                                have hb : Below wq.heap.size wq w103 := by rw [hwn]; exact (Below.refl _ _).alloc (Nat.le_refl _) _
                                have HX11 := Lib.hid (show w103.heap[b11]? = some (.cells #[.slice none 0 0, .slice none 0 0, .int .i64 0, .bool false] 25 (0, 0)) by rw [hwn, hbn]; exact heap_alloc_new _ _)
                                have h11 : W10.heap.size ≤ b11 := by have := HB9.out.size; omega
                                replace HLq := Lib.hid ((HLq.out.mono (M' := NB [b11]) fun b hlt hM hin => by simp only [List.mem_cons, List.not_mem_nil, or_false] at hin; rcases hin with rfl <;> first | omega | exact hM (by simp)).below hb)
                                replace HB9 := Lib.hid (HB9.out.trans (hb.mono HB9.out.size))
                                clear hb hwn hbn
                                refine hK.out _ _ (HC.out _ HB9.out) (fun hHeld => ?_)
                                clear hK K hHeld
                                (repeat (first | simp only [Act.put] | simp only [List.setIfInBounds_toArray] | simp only [List.set_cons_zero] | simp only [List.set_cons_succ]))
                                exact key001 w103 b10 b11 A4 n4 c4 A8 n9 c8 sA sc pA pc ⟨HB9, HLq, HX11, h11⟩
                            case h2 =>
                              intro wz001 b10 b11 A4 n4 c4 A8 n9 c8 sA sc pA pc ⟨HB9, HLq, HX11, h11⟩
                              (try dsimp only)
                              refine wpAnyH_ready (rs := [3, 10]) (by kernel_rfl) (by simp) ?_
                              refine AllReadyH.cons rfl (fun K hK => ?_) (AllReadyH.cons rfl (fun K hK => ?_) AllReadyH.nil)
                              · skip
                                go_simp
                                go_at_call 28
                                refine (add_any wz001 (NB [b11]) D ([]) _ HLq.out HWK.out.ok (fit_logOf HWK.out) xs _ ⟨aA, ac, rfl, HCA.out.1, HCA.out.2, (HAR.out.keep fun p _ hp => (HB.out.trans (HB9.out.mono HB.out.size)).cell hp).mono fun b _ hb hin => by simp only [List.mem_cons, List.not_mem_nil, or_false] at hin; have := HB.out.size; omega⟩ HFA.out).mono ?_
                                rintro e w104 ⟨v9, rfl, hl, hb⟩
                                obtain ⟨A4, n4, c4, rfl, hl⟩ := form_logOf hl
                                replace HLq := Lib.hid (hl.mono (M' := NB [b11]) fun q _ hq => NB.new ((InW.nil _).cons (lt_heap HX11.out)) hq)
                                clear hl
                                replace HX11 := Lib.hid ((hb.block _ (lt_heap HX11.out)).trans HX11.out)
                                replace HB9 := Lib.hid (HB9.out.trans (hb.mono HB9.out.size))
                                clear hb
                                refine hK.out _ _ (HC.out _ HB9.out) (fun hHeld => ?_)
                                clear hK K
                                (repeat (first | simp only [Act.put] | simp only [List.setIfInBounds_toArray] | simp only [List.set_cons_zero] | simp only [List.set_cons_succ]))
                                clear hHeld
                                exact key101 w104 b10 b11 A4 n4 c4 A8 n9 c8 sA sc pA pc ⟨HB9, HLq, HX11, h11⟩
                              · skip
                                refine wpOp_al (d := some 13) (obj := .cells #[.int .i64 0, .slice none 0 0, .int .i64 0] 29) rfl rfl (run_alL _ rfl) ?_
                                obtain ⟨b10, hbn⟩ : ∃ b, b = wz001.heap.size := ⟨_, rfl⟩
                                rw [← hbn]
                                obtain ⟨w105, hwn⟩ : ∃ w', w' = wz001.alloc (.cells #[.int .i64 0, .slice none 0 0, .int .i64 0] 29) := ⟨_, rfl⟩
                                rw [← hwn]
                                have hb : Below wz001.heap.size wz001 w105 := by rw [hwn]; exact (Below.refl _ _).alloc (Nat.le_refl _) _
                                have HX10 := Lib.hid (show w105.heap[b10]? = some (.cells #[.int .i64 0, .slice none 0 0, .int .i64 0] 29 (0, 0)) by rw [hwn, hbn]; exact heap_alloc_new _ _)
                                have h10 : W10.heap.size ≤ b10 := by have := HB9.out.size; omega
                                have hne : b10 ≠ b11 := by have := lt_heap HX11.out; omega
                                replace HX11 := Lib.hid ((hb.block _ (lt_heap HX11.out)).trans HX11.out)
                                replace HLq := Lib.hid ((HLq.out.mono (M' := NB [b10, b11]) fun b hlt hM hin => by simp only [List.mem_cons, List.not_mem_nil, or_false] at hin; rcases hin with rfl | rfl <;> first | omega | exact hM (by simp)).below hb)
                                replace HB9 := Lib.hid (HB9.out.trans (hb.mono HB9.out.size))
                                clear hb hwn hbn
                                refine hK.out _ _ (HC.out _ HB9.out) (fun hHeld => ?_)
                                clear hK K hHeld
                                (repeat (first | simp only [Act.put] | simp only [List.setIfInBounds_toArray] | simp only [List.set_cons_zero] | simp only [List.set_cons_succ]))
                                exact key011 w105 b10 b11 A4 n4 c4 A8 n9 c8 sA sc pA pc ⟨HB9, HLq, HX10, h10, HX11, h11, hne⟩
                          case h2 =>
                            intro wz010 b10 b11 A4 n4 c4 A8 n9 c8 sA sc pA pc ⟨HB9, HLq, HX10, h10⟩
                            (try dsimp only)
                            refine wpAnyH_ready (rs := [3, 11]) (by kernel_rfl) (by simp) ?_
                            refine AllReadyH.cons rfl (fun K hK => ?_) (AllReadyH.cons rfl (fun K hK => ?_) AllReadyH.nil)
                            · skip
                              go_simp
                              go_at_call 28
                              refine (add_any wz010 (NB [b10]) D ([]) _ HLq.out HWK.out.ok (fit_logOf HWK.out) xs _ ⟨aA, ac, rfl, HCA.out.1, HCA.out.2, (HAR.out.keep fun p _ hp => (HB.out.trans (HB9.out.mono HB.out.size)).cell hp).mono fun b _ hb hin => by simp only [List.mem_cons, List.not_mem_nil, or_false] at hin; have := HB.out.size; omega⟩ HFA.out).mono ?_
                              rintro e w106 ⟨v9, rfl, hl, hb⟩
                              obtain ⟨A4, n4, c4, rfl, hl⟩ := form_logOf hl
                              replace HLq := Lib.hid (hl.mono (M' := NB [b10]) fun q _ hq => NB.new ((InW.nil _).cons (lt_heap HX10.out)) hq)
                              clear hl
                              replace HX10 := Lib.hid ((hb.block _ (lt_heap HX10.out)).trans HX10.out)
                              replace HB9 := Lib.hid (HB9.out.trans (hb.mono HB9.out.size))
                              clear hb
                              refine hK.out _ _ (HC.out _ HB9.out) (fun hHeld => ?_)
                              clear hK K
                              (repeat (first | simp only [Act.put] | simp only [List.setIfInBounds_toArray] | simp only [List.set_cons_zero] | simp only [List.set_cons_succ]))
                              clear hHeld
                              exact key110 w106 b10 b11 A4 n4 c4 A8 n9 c8 sA sc pA pc ⟨HB9, HLq, HX10, h10⟩
                            · skip
                              refine wpOp_al (d := some 14) (obj := .cells #[.slice none 0 0, .slice none 0 0, .int .i64 0, .bool false] 25) rfl rfl (run_alD _ rfl) ?_
                              obtain ⟨b11, hbn⟩ : ∃ b, b = wz010.heap.size := ⟨_, rfl⟩
                              rw [← hbn]
                              obtain ⟨w107, hwn⟩ : ∃ w', w' = wz010.alloc (.cells #[.slice none 0 0, .slice none 0 0, .int .i64 0, .bool false] 25) := ⟨_, rfl⟩
                              rw [← hwn]
                              have hb : Below wz010.heap.size wz010 w107 := by rw [hwn]; exact (Below.refl _ _).alloc (Nat.le_refl _) _
                              have HX11 := Lib.hid (show w107.heap[b11]? = some (.cells #[.slice none 0 0, .slice none 0 0, .int .i64 0, .bool false] 25 (0, 0)) by rw [hwn, hbn]; exact heap_alloc_new _ _)
                              have h11 : W10.heap.size ≤ b11 := by have := HB9.out.size; omega
                              have hne : b10 ≠ b11 := by have := lt_heap HX10.out; omega
                              replace HX10 := Lib.hid ((hb.block _ (lt_heap HX10.out)).trans HX10.out)
                              replace HLq := Lib.hid ((HLq.out.mono (M' := NB [b10, b11]) fun b hlt hM hin => by simp only [List.mem_cons, List.not_mem_nil, or_false] at hin; rcases hin with rfl | rfl <;> first | omega | exact hM (by simp)).below hb)
                              replace HB9 := Lib.hid (HB9.out.trans (hb.mono HB9.out.size))
                              clear hb hwn hbn
                              refine hK.out _ _ (HC.out _ HB9.out) (fun hHeld => ?_)
                              clear hK K hHeld
                              (repeat (first | simp only [Act.put] | simp only [List.setIfInBounds_toArray] | simp only [List.set_cons_zero] | simp only [List.set_cons_succ]))
                              exact key011 w107 b10 b11 A4 n4 c4 A8 n9 c8 sA sc pA pc ⟨HB9, HLq, HX10, h10, HX11, h11, hne⟩
                        case h2 =>
                          intro wz011 b10 b11 A4 n4 c4 A8 n9 c8 sA sc pA pc ⟨HB9, HLq, HX10, h10, HX11, h11, hne⟩
                          (try dsimp only)
                          refine wpAnyH_ready (rs := [3]) (by kernel_rfl) (by simp) ?_
                          refine AllReadyH.cons rfl (fun K hK => ?_) AllReadyH.nil
                          · skip
                            go_simp
                            go_at_call 28
                            refine (add_any wz011 (NB [b10, b11]) D ([]) _ HLq.out HWK.out.ok (fit_logOf HWK.out) xs _ ⟨aA, ac, rfl, HCA.out.1, HCA.out.2, (HAR.out.keep fun p _ hp => (HB.out.trans (HB9.out.mono HB.out.size)).cell hp).mono fun b _ hb hin => by simp only [List.mem_cons, List.not_mem_nil, or_false] at hin; have := HB.out.size; omega⟩ HFA.out).mono ?_
                            rintro e w108 ⟨v9, rfl, hl, hb⟩
                            obtain ⟨A4, n4, c4, rfl, hl⟩ := form_logOf hl
                            replace HLq := Lib.hid (hl.mono (M' := NB [b10, b11]) fun q _ hq => NB.new (((InW.nil _).cons (lt_heap HX11.out)).cons (lt_heap HX10.out)) hq)
                            clear hl
                            replace HX10 := Lib.hid ((hb.block _ (lt_heap HX10.out)).trans HX10.out)
                            replace HX11 := Lib.hid ((hb.block _ (lt_heap HX11.out)).trans HX11.out)
                            replace HB9 := Lib.hid (HB9.out.trans (hb.mono HB9.out.size))
                            clear hb
                            refine hK.out _ _ (HC.out _ HB9.out) (fun hHeld => ?_)
                            clear hK K
                            (repeat (first | simp only [Act.put] | simp only [List.setIfInBounds_toArray] | simp only [List.set_cons_zero] | simp only [List.set_cons_succ]))
                            clear hHeld
                            exact key111 w108 b10 b11 A4 n4 c4 A8 n9 c8 sA sc pA pc ⟨HB9, HLq, HX10, h10, HX11, h11, hne⟩
                      case h2 =>
                        intro wz100 b10 b11 A4 n4 c4 A8 n9 c8 sA sc pA pc ⟨HB9, HLq⟩
                        (try dsimp only)
                        refine wpAnyH_ready (rs := [5, 10, 11]) (by kernel_rfl) (by simp) ?_
                        refine AllReadyH.cons rfl (fun K hK => ?_) (AllReadyH.cons rfl (fun K hK => ?_) (AllReadyH.cons rfl (fun K hK => ?_) AllReadyH.nil))
                        · skip
                          go_simp
                          go_at_call 21
                          have CO := syncW_any wz100 (NB []) (logOf D (addAll D [] xs)) _ HLq.out (fit_of_used (by have := (addAll_fit (fit_logOf HWK.out) xs); have := okB_sized HWK.out.ok; show used (recs D.sectors ++ addAll D [] xs) ≤ 4096; omega)) D _ ((HDk.out.below HB9.out).mono fun b _ hb hin => by cases hin)
                          rw [HS1.out] at CO
                          refine CO.mono ?_
                          rintro e w109 ⟨lv, dv, rfl, hl, hd, hb⟩
                          clear CO
                          obtain ⟨A8, n9, c8, rfl, hl⟩ := form_logOf hl
                          obtain ⟨sA, sc, pA, pc, rfl, -⟩ := hd.parts
                          replace HLq := Lib.hid (hl.mono (M' := NB []) fun q _ hq => NB.new (InW.nil _) hq)
                          have HDq := Lib.hid (hd.mono (M' := NB []) fun q _ hq => NB.new (InW.nil _) hq)
                          clear hl hd
                          replace HB9 := Lib.hid (HB9.out.trans (hb.mono HB9.out.size))
                          clear hb
                          refine hK.out _ _ (HC.out _ HB9.out) (fun hHeld => ?_)
                          clear hK K
                          (repeat (first | simp only [List.setIfInBounds_toArray] | simp only [List.set_cons_zero] | simp only [List.set_cons_succ]))
                          refine takeD (i := 6) (d := some 66) (v := ?_) rfl rfl (by kernel_rfl) (by kernel_rfl) (by kernel_rfl) (fun _ _ _ h => h) (Or.inl ⟨by rfl, ?_⟩) hHeld ?_
                          rotate_left 1
                          focus (intro w hSw; (try dsimp only at hSw); go_simp; (try with_reducible rfl))
                          (repeat (first | simp only [Act.put] | simp only [List.setIfInBounds_toArray] | simp only [List.set_cons_zero] | simp only [List.set_cons_succ]))
                          refine takeD (i := 7) (d := some 73) (v := ?_) rfl rfl (by kernel_rfl) (by kernel_rfl) (by kernel_rfl) (fun _ _ _ h => h) (Or.inl ⟨by rfl, ?_⟩) hHeld ?_
                          rotate_left 1
                          focus (intro w hSw; (try dsimp only at hSw); go_simp; (try with_reducible rfl))
                          (repeat (first | simp only [Act.put] | simp only [List.setIfInBounds_toArray] | simp only [List.set_cons_zero] | simp only [List.set_cons_succ]))
                          refine takeD (i := 8) (d := some 74) (v := ?_) rfl rfl (by kernel_rfl) (by kernel_rfl) (by kernel_rfl) (fun _ _ _ h => h) (Or.inl ⟨by rfl, ?_⟩) hHeld ?_
                          rotate_left 1
                          focus (intro w hSw; (try dsimp only at hSw); go_simp; (try with_reducible rfl))
                          (repeat (first | simp only [Act.put] | simp only [List.setIfInBounds_toArray] | simp only [List.set_cons_zero] | simp only [List.set_cons_succ]))
                          refine takeD (i := 9) (d := some 75) (v := ?_) rfl rfl (by kernel_rfl) (by kernel_rfl) (by kernel_rfl) (fun _ _ _ h => h) (Or.inl ⟨by rfl, ?_⟩) hHeld ?_
                          rotate_left 1
                          focus (intro w hSw; (try dsimp only at hSw); go_simp; (try with_reducible rfl))
                          (repeat (first | simp only [Act.put] | simp only [List.setIfInBounds_toArray] | simp only [List.set_cons_zero] | simp only [List.set_cons_succ]))
                          clear hHeld
                          exact key200 w109 b10 b11 A4 n4 c4 A8 n9 c8 sA sc pA pc ⟨HB9, HLq, HDq⟩
                        · skip
                          refine wpOp_al (d := some 13) (obj := .cells #[.int .i64 0, .slice none 0 0, .int .i64 0] 29) rfl rfl (run_alL _ rfl) ?_
                          obtain ⟨b10, hbn⟩ : ∃ b, b = wz100.heap.size := ⟨_, rfl⟩
                          rw [← hbn]
                          obtain ⟨w110, hwn⟩ : ∃ w', w' = wz100.alloc (.cells #[.int .i64 0, .slice none 0 0, .int .i64 0] 29) := ⟨_, rfl⟩
                          rw [← hwn]
                          have hb : Below wz100.heap.size wz100 w110 := by rw [hwn]; exact (Below.refl _ _).alloc (Nat.le_refl _) _
                          have HX10 := Lib.hid (show w110.heap[b10]? = some (.cells #[.int .i64 0, .slice none 0 0, .int .i64 0] 29 (0, 0)) by rw [hwn, hbn]; exact heap_alloc_new _ _)
                          have h10 : W10.heap.size ≤ b10 := by have := HB9.out.size; omega
                          replace HLq := Lib.hid ((HLq.out.mono (M' := NB [b10]) fun b hlt hM hin => by simp only [List.mem_cons, List.not_mem_nil, or_false] at hin; rcases hin with rfl <;> first | omega | exact hM (by simp)).below hb)
                          replace HB9 := Lib.hid (HB9.out.trans (hb.mono HB9.out.size))
                          clear hb hwn hbn
                          refine hK.out _ _ (HC.out _ HB9.out) (fun hHeld => ?_)
                          clear hK K hHeld
                          (repeat (first | simp only [Act.put] | simp only [List.setIfInBounds_toArray] | simp only [List.set_cons_zero] | simp only [List.set_cons_succ]))
                          exact key110 w110 b10 b11 A4 n4 c4 A8 n9 c8 sA sc pA pc ⟨HB9, HLq, HX10, h10⟩
                        · skip
                          refine wpOp_al (d := some 14) (obj := .cells #[.slice none 0 0, .slice none 0 0, .int .i64 0, .bool false] 25) rfl rfl (run_alD _ rfl) ?_
                          obtain ⟨b11, hbn⟩ : ∃ b, b = wz100.heap.size := ⟨_, rfl⟩
                          rw [← hbn]
                          obtain ⟨w111, hwn⟩ : ∃ w', w' = wz100.alloc (.cells #[.slice none 0 0, .slice none 0 0, .int .i64 0, .bool false] 25) := ⟨_, rfl⟩
                          rw [← hwn]
                          have hb : Below wz100.heap.size wz100 w111 := by rw [hwn]; exact (Below.refl _ _).alloc (Nat.le_refl _) _
                          have HX11 := Lib.hid (show w111.heap[b11]? = some (.cells #[.slice none 0 0, .slice none 0 0, .int .i64 0, .bool false] 25 (0, 0)) by rw [hwn, hbn]; exact heap_alloc_new _ _)
                          have h11 : W10.heap.size ≤ b11 := by have := HB9.out.size; omega
                          replace HLq := Lib.hid ((HLq.out.mono (M' := NB [b11]) fun b hlt hM hin => by simp only [List.mem_cons, List.not_mem_nil, or_false] at hin; rcases hin with rfl <;> first | omega | exact hM (by simp)).below hb)
                          replace HB9 := Lib.hid (HB9.out.trans (hb.mono HB9.out.size))
                          clear hb hwn hbn
                          refine hK.out _ _ (HC.out _ HB9.out) (fun hHeld => ?_)
                          clear hK K hHeld
                          (repeat (first | simp only [Act.put] | simp only [List.setIfInBounds_toArray] | simp only [List.set_cons_zero] | simp only [List.set_cons_succ]))
                          exact key101 w111 b10 b11 A4 n4 c4 A8 n9 c8 sA sc pA pc ⟨HB9, HLq, HX11, h11⟩
                    case h2 =>
                      intro wz101 b10 b11 A4 n4 c4 A8 n9 c8 sA sc pA pc ⟨HB9, HLq, HX11, h11⟩
                      (try dsimp only)
                      refine wpAnyH_ready (rs := [5, 10]) (by kernel_rfl) (by simp) ?_
                      refine AllReadyH.cons rfl (fun K hK => ?_) (AllReadyH.cons rfl (fun K hK => ?_) AllReadyH.nil)
                      · skip
                        go_simp
                        go_at_call 21
                        have CO := syncW_any wz101 (NB [b11]) (logOf D (addAll D [] xs)) _ HLq.out (fit_of_used (by have := (addAll_fit (fit_logOf HWK.out) xs); have := okB_sized HWK.out.ok; show used (recs D.sectors ++ addAll D [] xs) ≤ 4096; omega)) D _ ((HDk.out.below HB9.out).mono fun b _ hb hin => by simp only [List.mem_cons, List.not_mem_nil, or_false] at hin; omega)
                        rw [HS1.out] at CO
                        refine CO.mono ?_
                        rintro e w112 ⟨lv, dv, rfl, hl, hd, hb⟩
                        clear CO
                        obtain ⟨A8, n9, c8, rfl, hl⟩ := form_logOf hl
                        obtain ⟨sA, sc, pA, pc, rfl, -⟩ := hd.parts
                        replace HLq := Lib.hid (hl.mono (M' := NB [b11]) fun q _ hq => NB.new ((InW.nil _).cons (lt_heap HX11.out)) hq)
                        have HDq := Lib.hid (hd.mono (M' := NB [b11]) fun q _ hq => NB.new ((InW.nil _).cons (lt_heap HX11.out)) hq)
                        clear hl hd
                        replace HX11 := Lib.hid ((hb.block _ (lt_heap HX11.out)).trans HX11.out)
                        replace HB9 := Lib.hid (HB9.out.trans (hb.mono HB9.out.size))
                        clear hb
                        refine hK.out _ _ (HC.out _ HB9.out) (fun hHeld => ?_)
                        clear hK K
                        (repeat (first | simp only [List.setIfInBounds_toArray] | simp only [List.set_cons_zero] | simp only [List.set_cons_succ]))
                        refine takeD (i := 6) (d := some 66) (v := ?_) rfl rfl (by kernel_rfl) (by kernel_rfl) (by kernel_rfl) (fun _ _ _ h => h) (Or.inl ⟨by rfl, ?_⟩) hHeld ?_
                        rotate_left 1
                        focus (intro w hSw; (try dsimp only at hSw); go_simp; (try with_reducible rfl))
                        (repeat (first | simp only [Act.put] | simp only [List.setIfInBounds_toArray] | simp only [List.set_cons_zero] | simp only [List.set_cons_succ]))
                        refine takeD (i := 7) (d := some 73) (v := ?_) rfl rfl (by kernel_rfl) (by kernel_rfl) (by kernel_rfl) (fun _ _ _ h => h) (Or.inl ⟨by rfl, ?_⟩) hHeld ?_
                        rotate_left 1
                        focus (intro w hSw; (try dsimp only at hSw); go_simp; (try with_reducible rfl))
                        (repeat (first | simp only [Act.put] | simp only [List.setIfInBounds_toArray] | simp only [List.set_cons_zero] | simp only [List.set_cons_succ]))
                        refine takeD (i := 8) (d := some 74) (v := ?_) rfl rfl (by kernel_rfl) (by kernel_rfl) (by kernel_rfl) (fun _ _ _ h => h) (Or.inl ⟨by rfl, ?_⟩) hHeld ?_
                        rotate_left 1
                        focus (intro w hSw; (try dsimp only at hSw); go_simp; (try with_reducible rfl))
                        (repeat (first | simp only [Act.put] | simp only [List.setIfInBounds_toArray] | simp only [List.set_cons_zero] | simp only [List.set_cons_succ]))
                        refine takeD (i := 9) (d := some 75) (v := ?_) rfl rfl (by kernel_rfl) (by kernel_rfl) (by kernel_rfl) (fun _ _ _ h => h) (Or.inl ⟨by rfl, ?_⟩) hHeld ?_
                        rotate_left 1
                        focus (intro w hSw; (try dsimp only at hSw); go_simp; (try with_reducible rfl))
                        (repeat (first | simp only [Act.put] | simp only [List.setIfInBounds_toArray] | simp only [List.set_cons_zero] | simp only [List.set_cons_succ]))
                        clear hHeld
                        exact key201 w112 b10 b11 A4 n4 c4 A8 n9 c8 sA sc pA pc ⟨HB9, HLq, HX11, h11, HDq⟩
                      · skip
                        refine wpOp_al (d := some 13) (obj := .cells #[.int .i64 0, .slice none 0 0, .int .i64 0] 29) rfl rfl (run_alL _ rfl) ?_
                        obtain ⟨b10, hbn⟩ : ∃ b, b = wz101.heap.size := ⟨_, rfl⟩
                        rw [← hbn]
                        obtain ⟨w113, hwn⟩ : ∃ w', w' = wz101.alloc (.cells #[.int .i64 0, .slice none 0 0, .int .i64 0] 29) := ⟨_, rfl⟩
                        rw [← hwn]
                        have hb : Below wz101.heap.size wz101 w113 := by rw [hwn]; exact (Below.refl _ _).alloc (Nat.le_refl _) _
                        have HX10 := Lib.hid (show w113.heap[b10]? = some (.cells #[.int .i64 0, .slice none 0 0, .int .i64 0] 29 (0, 0)) by rw [hwn, hbn]; exact heap_alloc_new _ _)
                        have h10 : W10.heap.size ≤ b10 := by have := HB9.out.size; omega
                        have hne : b10 ≠ b11 := by have := lt_heap HX11.out; omega
                        replace HX11 := Lib.hid ((hb.block _ (lt_heap HX11.out)).trans HX11.out)
                        replace HLq := Lib.hid ((HLq.out.mono (M' := NB [b10, b11]) fun b hlt hM hin => by simp only [List.mem_cons, List.not_mem_nil, or_false] at hin; rcases hin with rfl | rfl <;> first | omega | exact hM (by simp)).below hb)
                        replace HB9 := Lib.hid (HB9.out.trans (hb.mono HB9.out.size))
                        clear hb hwn hbn
                        refine hK.out _ _ (HC.out _ HB9.out) (fun hHeld => ?_)
                        clear hK K hHeld
                        (repeat (first | simp only [Act.put] | simp only [List.setIfInBounds_toArray] | simp only [List.set_cons_zero] | simp only [List.set_cons_succ]))
                        exact key111 w113 b10 b11 A4 n4 c4 A8 n9 c8 sA sc pA pc ⟨HB9, HLq, HX10, h10, HX11, h11, hne⟩
                  case h2 =>
                    intro wz110 b10 b11 A4 n4 c4 A8 n9 c8 sA sc pA pc ⟨HB9, HLq, HX10, h10⟩
                    (try dsimp only)
                    refine wpAnyH_ready (rs := [5, 11]) (by kernel_rfl) (by simp) ?_
                    refine AllReadyH.cons rfl (fun K hK => ?_) (AllReadyH.cons rfl (fun K hK => ?_) AllReadyH.nil)
                    · skip
                      go_simp
                      go_at_call 21
                      have CO := syncW_any wz110 (NB [b10]) (logOf D (addAll D [] xs)) _ HLq.out (fit_of_used (by have := (addAll_fit (fit_logOf HWK.out) xs); have := okB_sized HWK.out.ok; show used (recs D.sectors ++ addAll D [] xs) ≤ 4096; omega)) D _ ((HDk.out.below HB9.out).mono fun b _ hb hin => by simp only [List.mem_cons, List.not_mem_nil, or_false] at hin; omega)
                      rw [HS1.out] at CO
                      refine CO.mono ?_
                      rintro e w114 ⟨lv, dv, rfl, hl, hd, hb⟩
                      clear CO
                      obtain ⟨A8, n9, c8, rfl, hl⟩ := form_logOf hl
                      obtain ⟨sA, sc, pA, pc, rfl, -⟩ := hd.parts
                      replace HLq := Lib.hid (hl.mono (M' := NB [b10]) fun q _ hq => NB.new ((InW.nil _).cons (lt_heap HX10.out)) hq)
                      have HDq := Lib.hid (hd.mono (M' := NB [b10]) fun q _ hq => NB.new ((InW.nil _).cons (lt_heap HX10.out)) hq)
                      clear hl hd
                      replace HX10 := Lib.hid ((hb.block _ (lt_heap HX10.out)).trans HX10.out)
                      replace HB9 := Lib.hid (HB9.out.trans (hb.mono HB9.out.size))
                      clear hb
                      refine hK.out _ _ (HC.out _ HB9.out) (fun hHeld => ?_)
                      clear hK K
                      (repeat (first | simp only [List.setIfInBounds_toArray] | simp only [List.set_cons_zero] | simp only [List.set_cons_succ]))
                      refine takeD (i := 6) (d := some 66) (v := ?_) rfl rfl (by kernel_rfl) (by kernel_rfl) (by kernel_rfl) (fun _ _ _ h => h) (Or.inl ⟨by rfl, ?_⟩) hHeld ?_
                      rotate_left 1
                      focus (intro w hSw; (try dsimp only at hSw); go_simp; (try with_reducible rfl))
                      (repeat (first | simp only [Act.put] | simp only [List.setIfInBounds_toArray] | simp only [List.set_cons_zero] | simp only [List.set_cons_succ]))
                      refine takeD (i := 7) (d := some 73) (v := ?_) rfl rfl (by kernel_rfl) (by kernel_rfl) (by kernel_rfl) (fun _ _ _ h => h) (Or.inl ⟨by rfl, ?_⟩) hHeld ?_
                      rotate_left 1
                      focus (intro w hSw; (try dsimp only at hSw); go_simp; (try with_reducible rfl))
                      (repeat (first | simp only [Act.put] | simp only [List.setIfInBounds_toArray] | simp only [List.set_cons_zero] | simp only [List.set_cons_succ]))
                      refine takeD (i := 8) (d := some 74) (v := ?_) rfl rfl (by kernel_rfl) (by kernel_rfl) (by kernel_rfl) (fun _ _ _ h => h) (Or.inl ⟨by rfl, ?_⟩) hHeld ?_
                      rotate_left 1
                      focus (intro w hSw; (try dsimp only at hSw); go_simp; (try with_reducible rfl))
                      (repeat (first | simp only [Act.put] | simp only [List.setIfInBounds_toArray] | simp only [List.set_cons_zero] | simp only [List.set_cons_succ]))
                      refine takeD (i := 9) (d := some 75) (v := ?_) rfl rfl (by kernel_rfl) (by kernel_rfl) (by kernel_rfl) (fun _ _ _ h => h) (Or.inl ⟨by rfl, ?_⟩) hHeld ?_
                      rotate_left 1
                      focus (intro w hSw; (try dsimp only at hSw); go_simp; (try with_reducible rfl))
                      (repeat (first | simp only [Act.put] | simp only [List.setIfInBounds_toArray] | simp only [List.set_cons_zero] | simp only [List.set_cons_succ]))
                      clear hHeld
                      exact key210 w114 b10 b11 A4 n4 c4 A8 n9 c8 sA sc pA pc ⟨HB9, HLq, HX10, h10, HDq⟩
                    · skip
                      refine wpOp_al (d := some 14) (obj := .cells #[.slice none 0 0, .slice none 0 0, .int .i64 0, .bool false] 25) rfl rfl (run_alD _ rfl) ?_
                      obtain ⟨b11, hbn⟩ : ∃ b, b = wz110.heap.size := ⟨_, rfl⟩
                      rw [← hbn]
                      obtain ⟨w115, hwn⟩ : ∃ w', w' = wz110.alloc (.cells #[.slice none 0 0, .slice none 0 0, .int .i64 0, .bool false] 25) := ⟨_, rfl⟩
                      rw [← hwn]
                      have hb : Below wz110.heap.size wz110 w115 := by rw [hwn]; exact (Below.refl _ _).alloc (Nat.le_refl _) _
                      have HX11 := Lib.hid (show w115.heap[b11]? = some (.cells #[.slice none 0 0, .slice none 0 0, .int .i64 0, .bool false] 25 (0, 0)) by rw [hwn, hbn]; exact heap_alloc_new _ _)
                      have h11 : W10.heap.size ≤ b11 := by have := HB9.out.size; omega
                      have hne : b10 ≠ b11 := by have := lt_heap HX10.out; omega
                      replace HX10 := Lib.hid ((hb.block _ (lt_heap HX10.out)).trans HX10.out)
                      replace HLq := Lib.hid ((HLq.out.mono (M' := NB [b10, b11]) fun b hlt hM hin => by simp only [List.mem_cons, List.not_mem_nil, or_false] at hin; rcases hin with rfl | rfl <;> first | omega | exact hM (by simp)).below hb)
                      replace HB9 := Lib.hid (HB9.out.trans (hb.mono HB9.out.size))
                      clear hb hwn hbn
                      refine hK.out _ _ (HC.out _ HB9.out) (fun hHeld => ?_)
                      clear hK K hHeld
                      (repeat (first | simp only [Act.put] | simp only [List.setIfInBounds_toArray] | simp only [List.set_cons_zero] | simp only [List.set_cons_succ]))
                      exact key111 w115 b10 b11 A4 n4 c4 A8 n9 c8 sA sc pA pc ⟨HB9, HLq, HX10, h10, HX11, h11, hne⟩
                case h2 =>
                  intro wz111 b10 b11 A4 n4 c4 A8 n9 c8 sA sc pA pc ⟨HB9, HLq, HX10, h10, HX11, h11, hne⟩
                  (try dsimp only)
                  refine wpAnyH_ready (rs := [5]) (by kernel_rfl) (by simp) ?_
                  refine AllReadyH.cons rfl (fun K hK => ?_) AllReadyH.nil
                  · skip
                    go_simp
                    go_at_call 21
                    have CO := syncW_any wz111 (NB [b10, b11]) (logOf D (addAll D [] xs)) _ HLq.out (fit_of_used (by have := (addAll_fit (fit_logOf HWK.out) xs); have := okB_sized HWK.out.ok; show used (recs D.sectors ++ addAll D [] xs) ≤ 4096; omega)) D _ ((HDk.out.below HB9.out).mono fun b _ hb hin => by simp only [List.mem_cons, List.not_mem_nil, or_false] at hin; omega)
                    rw [HS1.out] at CO
                    refine CO.mono ?_
                    rintro e w116 ⟨lv, dv, rfl, hl, hd, hb⟩
                    clear CO
                    obtain ⟨A8, n9, c8, rfl, hl⟩ := form_logOf hl
                    obtain ⟨sA, sc, pA, pc, rfl, -⟩ := hd.parts
                    replace HLq := Lib.hid (hl.mono (M' := NB [b10, b11]) fun q _ hq => NB.new (((InW.nil _).cons (lt_heap HX11.out)).cons (lt_heap HX10.out)) hq)
                    have HDq := Lib.hid (hd.mono (M' := NB [b10, b11]) fun q _ hq => NB.new (((InW.nil _).cons (lt_heap HX11.out)).cons (lt_heap HX10.out)) hq)
                    clear hl hd
                    replace HX10 := Lib.hid ((hb.block _ (lt_heap HX10.out)).trans HX10.out)
                    replace HX11 := Lib.hid ((hb.block _ (lt_heap HX11.out)).trans HX11.out)
                    replace HB9 := Lib.hid (HB9.out.trans (hb.mono HB9.out.size))
                    clear hb
                    refine hK.out _ _ (HC.out _ HB9.out) (fun hHeld => ?_)
                    clear hK K
                    (repeat (first | simp only [List.setIfInBounds_toArray] | simp only [List.set_cons_zero] | simp only [List.set_cons_succ]))
                    refine takeD (i := 6) (d := some 66) (v := ?_) rfl rfl (by kernel_rfl) (by kernel_rfl) (by kernel_rfl) (fun _ _ _ h => h) (Or.inl ⟨by rfl, ?_⟩) hHeld ?_
                    rotate_left 1
                    focus (intro w hSw; (try dsimp only at hSw); go_simp; (try with_reducible rfl))
                    (repeat (first | simp only [Act.put] | simp only [List.setIfInBounds_toArray] | simp only [List.set_cons_zero] | simp only [List.set_cons_succ]))
                    refine takeD (i := 7) (d := some 73) (v := ?_) rfl rfl (by kernel_rfl) (by kernel_rfl) (by kernel_rfl) (fun _ _ _ h => h) (Or.inl ⟨by rfl, ?_⟩) hHeld ?_
                    rotate_left 1
                    focus (intro w hSw; (try dsimp only at hSw); go_simp; (try with_reducible rfl))
                    (repeat (first | simp only [Act.put] | simp only [List.setIfInBounds_toArray] | simp only [List.set_cons_zero] | simp only [List.set_cons_succ]))
                    refine takeD (i := 8) (d := some 74) (v := ?_) rfl rfl (by kernel_rfl) (by kernel_rfl) (by kernel_rfl) (fun _ _ _ h => h) (Or.inl ⟨by rfl, ?_⟩) hHeld ?_
                    rotate_left 1
                    focus (intro w hSw; (try dsimp only at hSw); go_simp; (try with_reducible rfl))
                    (repeat (first | simp only [Act.put] | simp only [List.setIfInBounds_toArray] | simp only [List.set_cons_zero] | simp only [List.set_cons_succ]))
                    refine takeD (i := 9) (d := some 75) (v := ?_) rfl rfl (by kernel_rfl) (by kernel_rfl) (by kernel_rfl) (fun _ _ _ h => h) (Or.inl ⟨by rfl, ?_⟩) hHeld ?_
                    rotate_left 1
                    focus (intro w hSw; (try dsimp only at hSw); go_simp; (try with_reducible rfl))
                    (repeat (first | simp only [Act.put] | simp only [List.setIfInBounds_toArray] | simp only [List.set_cons_zero] | simp only [List.set_cons_succ]))
                    clear hHeld
                    exact key211 w116 b10 b11 A4 n4 c4 A8 n9 c8 sA sc pA pc ⟨HB9, HLq, HX10, h10, HX11, h11, hne, HDq⟩
              case h2 =>
                intro wz200 b10 b11 A4 n4 c4 A8 n9 c8 sA sc pA pc ⟨HB9, HLq, HDq⟩
                (try dsimp only)
                refine wpAnyH_ready (rs := [10, 11]) (by kernel_rfl) (by simp) ?_
                refine AllReadyH.cons rfl (fun K hK => ?_) (AllReadyH.cons rfl (fun K hK => ?_) AllReadyH.nil)
                · skip
                  refine wpOp_al (d := some 13) (obj := .cells #[.int .i64 0, .slice none 0 0, .int .i64 0] 29) rfl rfl (run_alL _ rfl) ?_
                  obtain ⟨b10, hbn⟩ : ∃ b, b = wz200.heap.size := ⟨_, rfl⟩
                  rw [← hbn]
                  obtain ⟨w117, hwn⟩ : ∃ w', w' = wz200.alloc (.cells #[.int .i64 0, .slice none 0 0, .int .i64 0] 29) := ⟨_, rfl⟩
                  rw [← hwn]
                  have hb : Below wz200.heap.size wz200 w117 := by rw [hwn]; exact (Below.refl _ _).alloc (Nat.le_refl _) _
                  have HX10 := Lib.hid (show w117.heap[b10]? = some (.cells #[.int .i64 0, .slice none 0 0, .int .i64 0] 29 (0, 0)) by rw [hwn, hbn]; exact heap_alloc_new _ _)
                  have h10 : W10.heap.size ≤ b10 := by have := HB9.out.size; omega
                  replace HLq := Lib.hid ((HLq.out.mono (M' := NB [b10]) fun b hlt hM hin => by simp only [List.mem_cons, List.not_mem_nil, or_false] at hin; rcases hin with rfl <;> first | omega | exact hM (by simp)).below hb)
                  replace HDq := Lib.hid ((HDq.out.mono (M' := NB [b10]) fun b hlt hM hin => by simp only [List.mem_cons, List.not_mem_nil, or_false] at hin; rcases hin with rfl <;> first | omega | exact hM (by simp)).below hb)
                  replace HB9 := Lib.hid (HB9.out.trans (hb.mono HB9.out.size))
                  clear hb hwn hbn
                  refine hK.out _ _ (HC.out _ HB9.out) (fun hHeld => ?_)
                  clear hK K hHeld
                  (repeat (first | simp only [Act.put] | simp only [List.setIfInBounds_toArray] | simp only [List.set_cons_zero] | simp only [List.set_cons_succ]))
                  exact key210 w117 b10 b11 A4 n4 c4 A8 n9 c8 sA sc pA pc ⟨HB9, HLq, HX10, h10, HDq⟩
                · skip
                  refine wpOp_al (d := some 14) (obj := .cells #[.slice none 0 0, .slice none 0 0, .int .i64 0, .bool false] 25) rfl rfl (run_alD _ rfl) ?_
                  obtain ⟨b11, hbn⟩ : ∃ b, b = wz200.heap.size := ⟨_, rfl⟩
                  rw [← hbn]
                  obtain ⟨w118, hwn⟩ : ∃ w', w' = wz200.alloc (.cells #[.slice none 0 0, .slice none 0 0, .int .i64 0, .bool false] 25) := ⟨_, rfl⟩
                  rw [← hwn]
                  have hb : Below wz200.heap.size wz200 w118 := by rw [hwn]; exact (Below.refl _ _).alloc (Nat.le_refl _) _
                  have HX11 := Lib.hid (show w118.heap[b11]? = some (.cells #[.slice none 0 0, .slice none 0 0, .int .i64 0, .bool false] 25 (0, 0)) by rw [hwn, hbn]; exact heap_alloc_new _ _)
                  have h11 : W10.heap.size ≤ b11 := by have := HB9.out.size; omega
                  replace HLq := Lib.hid ((HLq.out.mono (M' := NB [b11]) fun b hlt hM hin => by simp only [List.mem_cons, List.not_mem_nil, or_false] at hin; rcases hin with rfl <;> first | omega | exact hM (by simp)).below hb)
                  replace HDq := Lib.hid ((HDq.out.mono (M' := NB [b11]) fun b hlt hM hin => by simp only [List.mem_cons, List.not_mem_nil, or_false] at hin; rcases hin with rfl <;> first | omega | exact hM (by simp)).below hb)
                  replace HB9 := Lib.hid (HB9.out.trans (hb.mono HB9.out.size))
                  clear hb hwn hbn
                  refine hK.out _ _ (HC.out _ HB9.out) (fun hHeld => ?_)
                  clear hK K hHeld
                  (repeat (first | simp only [Act.put] | simp only [List.setIfInBounds_toArray] | simp only [List.set_cons_zero] | simp only [List.set_cons_succ]))
                  exact key201 w118 b10 b11 A4 n4 c4 A8 n9 c8 sA sc pA pc ⟨HB9, HLq, HX11, h11, HDq⟩
            case h2 =>
              intro wz201 b10 b11 A4 n4 c4 A8 n9 c8 sA sc pA pc ⟨HB9, HLq, HX11, h11, HDq⟩
              (try dsimp only)
              refine wpAnyH_ready (rs := [10]) (by kernel_rfl) (by simp) ?_
              refine AllReadyH.cons rfl (fun K hK => ?_) AllReadyH.nil
              · skip
                refine wpOp_al (d := some 13) (obj := .cells #[.int .i64 0, .slice none 0 0, .int .i64 0] 29) rfl rfl (run_alL _ rfl) ?_
                obtain ⟨b10, hbn⟩ : ∃ b, b = wz201.heap.size := ⟨_, rfl⟩
                rw [← hbn]
                obtain ⟨w119, hwn⟩ : ∃ w', w' = wz201.alloc (.cells #[.int .i64 0, .slice none 0 0, .int .i64 0] 29) := ⟨_, rfl⟩
                rw [← hwn]
                have hb : Below wz201.heap.size wz201 w119 := by rw [hwn]; exact (Below.refl _ _).alloc (Nat.le_refl _) _
                have HX10 := Lib.hid (show w119.heap[b10]? = some (.cells #[.int .i64 0, .slice none 0 0, .int .i64 0] 29 (0, 0)) by rw [hwn, hbn]; exact heap_alloc_new _ _)
                have h10 : W10.heap.size ≤ b10 := by have := HB9.out.size; omega
                have hne : b10 ≠ b11 := by have := lt_heap HX11.out; omega
                replace HX11 := Lib.hid ((hb.block _ (lt_heap HX11.out)).trans HX11.out)
                replace HLq := Lib.hid ((HLq.out.mono (M' := NB [b10, b11]) fun b hlt hM hin => by simp only [List.mem_cons, List.not_mem_nil, or_false] at hin; rcases hin with rfl | rfl <;> first | omega | exact hM (by simp)).below hb)
                replace HDq := Lib.hid ((HDq.out.mono (M' := NB [b10, b11]) fun b hlt hM hin => by simp only [List.mem_cons, List.not_mem_nil, or_false] at hin; rcases hin with rfl | rfl <;> first | omega | exact hM (by simp)).below hb)
                replace HB9 := Lib.hid (HB9.out.trans (hb.mono HB9.out.size))
                clear hb hwn hbn
                refine hK.out _ _ (HC.out _ HB9.out) (fun hHeld => ?_)
                clear hK K hHeld
                (repeat (first | simp only [Act.put] | simp only [List.setIfInBounds_toArray] | simp only [List.set_cons_zero] | simp only [List.set_cons_succ]))
                exact key211 w119 b10 b11 A4 n4 c4 A8 n9 c8 sA sc pA pc ⟨HB9, HLq, HX10, h10, HX11, h11, hne, HDq⟩
          case h2 =>
            intro wz210 b10 b11 A4 n4 c4 A8 n9 c8 sA sc pA pc ⟨HB9, HLq, HX10, h10, HDq⟩
            (try dsimp only)
            refine wpAnyH_ready (rs := [11]) (by kernel_rfl) (by simp) ?_
            refine AllReadyH.cons rfl (fun K hK => ?_) AllReadyH.nil
            · skip
              refine wpOp_al (d := some 14) (obj := .cells #[.slice none 0 0, .slice none 0 0, .int .i64 0, .bool false] 25) rfl rfl (run_alD _ rfl) ?_
              obtain ⟨b11, hbn⟩ : ∃ b, b = wz210.heap.size := ⟨_, rfl⟩
              rw [← hbn]
              obtain ⟨w120, hwn⟩ : ∃ w', w' = wz210.alloc (.cells #[.slice none 0 0, .slice none 0 0, .int .i64 0, .bool false] 25) := ⟨_, rfl⟩
              rw [← hwn]
              have hb : Below wz210.heap.size wz210 w120 := by rw [hwn]; exact (Below.refl _ _).alloc (Nat.le_refl _) _
              have HX11 := Lib.hid (show w120.heap[b11]? = some (.cells #[.slice none 0 0, .slice none 0 0, .int .i64 0, .bool false] 25 (0, 0)) by rw [hwn, hbn]; exact heap_alloc_new _ _)
              have h11 : W10.heap.size ≤ b11 := by have := HB9.out.size; omega
              have hne : b10 ≠ b11 := by have := lt_heap HX10.out; omega
              replace HX10 := Lib.hid ((hb.block _ (lt_heap HX10.out)).trans HX10.out)
              replace HLq := Lib.hid ((HLq.out.mono (M' := NB [b10, b11]) fun b hlt hM hin => by simp only [List.mem_cons, List.not_mem_nil, or_false] at hin; rcases hin with rfl | rfl <;> first | omega | exact hM (by simp)).below hb)
              replace HDq := Lib.hid ((HDq.out.mono (M' := NB [b10, b11]) fun b hlt hM hin => by simp only [List.mem_cons, List.not_mem_nil, or_false] at hin; rcases hin with rfl | rfl <;> first | omega | exact hM (by simp)).below hb)
              replace HB9 := Lib.hid (HB9.out.trans (hb.mono HB9.out.size))
              clear hb hwn hbn
              refine hK.out _ _ (HC.out _ HB9.out) (fun hHeld => ?_)
              clear hK K hHeld
              (repeat (first | simp only [Act.put] | simp only [List.setIfInBounds_toArray] | simp only [List.set_cons_zero] | simp only [List.set_cons_succ]))
              exact key211 w120 b10 b11 A4 n4 c4 A8 n9 c8 sA sc pA pc ⟨HB9, HLq, HX10, h10, HX11, h11, hne, HDq⟩
        case h2 =>
          intro wz211 b10 b11 A4 n4 c4 A8 n9 c8 sA sc pA pc ⟨HB9, HLq, HX10, h10, HX11, h11, hne, HDq⟩
          (try dsimp only)
          have HZ : Hid (ZS W10 b10 b11 X A8 n9 c8 sA sc pA pc wz211) := Lib.hid ⟨HB9.out, HX10.out, HX11.out, HLq.out, HDq.out, h10, h11, hne⟩
          clear HLq HDq
          have hl10 := lt_heap HZ.out.z10
          have hl11 := lt_heap HZ.out.z11
          have g0 : wz211.cell? ⟨b10, 0, none⟩ = some (.int .i64 0) := cell_of (j := 0) HZ.out.z10 rfl
          have f0 : wz211.frozen? ⟨b10, 0, none⟩ = false := frz8 HZ.out.z10
          have g1 : wz211.cell? ⟨b10, 1, none⟩ = some (.slice none 0 0) := cell_of (j := 1) HZ.out.z10 rfl
          have f1 : wz211.frozen? ⟨b10, 1, none⟩ = false := frz8 HZ.out.z10
          have g2 : wz211.cell? ⟨b10, 2, none⟩ = some (.int .i64 0) := cell_of (j := 2) HZ.out.z10 rfl
          have f2 : wz211.frozen? ⟨b10, 2, none⟩ = false := frz8 HZ.out.z10
          have k0 : wz211.cell? ⟨b11, 0, none⟩ = some (.slice none 0 0) := cell_of (j := 0) HZ.out.z11 rfl
          have y0 : wz211.frozen? ⟨b11, 0, none⟩ = false := frz8 HZ.out.z11
          have k1 : wz211.cell? ⟨b11, 1, none⟩ = some (.slice none 0 0) := cell_of (j := 1) HZ.out.z11 rfl
          have y1 : wz211.frozen? ⟨b11, 1, none⟩ = false := frz8 HZ.out.z11
          have k2 : wz211.cell? ⟨b11, 2, none⟩ = some (.int .i64 0) := cell_of (j := 2) HZ.out.z11 rfl
          have y2 : wz211.frozen? ⟨b11, 2, none⟩ = false := frz8 HZ.out.z11
          have k3 : wz211.cell? ⟨b11, 3, none⟩ = some (.bool false) := cell_of (j := 3) HZ.out.z11 rfl
          have y3 : wz211.frozen? ⟨b11, 3, none⟩ = false := frz8 HZ.out.z11
          refine wpAnyH_ready (rs := [12]) (by kernel_rfl) (by simp) ?_
          refine AllReadyH.cons rfl (fun K hK => ?_) AllReadyH.nil
          go_simp
          refine hK.out _ _ (HC.out _ (by repeat (first | with_reducible exact HB9.out | refine Below.setCell ?_ h10 _))) (fun hHeld => ?_)
          clear hK K
          (repeat (first | simp only [Act.put] | simp only [List.setIfInBounds_toArray] | simp only [List.set_cons_zero] | simp only [List.set_cons_succ]))
          refine wpAnyH_ready (rs := [13]) (by kernel_rfl) (by simp) ?_
          refine AllReadyH.cons rfl (fun K hK => ?_) AllReadyH.nil
          go_simp
          refine hK.out _ _ (HC.out _ (by repeat (first | with_reducible exact HB9.out | refine Below.setCell ?_ h10 _ | refine Below.setCell ?_ h11 _))) (fun hHeld => ?_)
          clear hK K
          (repeat (first | simp only [Act.put] | simp only [List.setIfInBounds_toArray] | simp only [List.set_cons_zero] | simp only [List.set_cons_succ]))
          refine takeD (i := 14) (d := some 15) (v := ?_) rfl rfl (by kernel_rfl) (by kernel_rfl) (by kernel_rfl) (fun _ _ _ h => h) (Or.inl ⟨by rfl, ?_⟩) hHeld ?_
          rotate_left 1
          focus (intro w hSw; (try dsimp only at hSw); go_simp; (try with_reducible rfl))
          (repeat (first | simp only [Act.put] | simp only [List.setIfInBounds_toArray] | simp only [List.set_cons_zero] | simp only [List.set_cons_succ]))
          refine wpAnyH_done (by kernel_rfl) ?_ _
          go_wp2_with fail
          go_meet
          case rel => exact ⟨_, _, _, _, _, _, _, _, _, rfl, rfl, rfl, Lib.hid HZ.out.store⟩
      case rest =>
        obtain ⟨p13, q13, A13, m13, c13, sA13, sc13, pA13, pc13, rfl, rfl, rfl, HS⟩ := hcut
        go_upto_region 12 with fail
        refine nameC fun W13 hW => ?_
        have HZ13 := Lib.hid (show BS W10 p13 q13 X A13 m13 c13 sA13 sc13 pA13 pc13 W13 by rw [hW.out]; exact HS.out)
        have hb := HZ13.out.below
        replace HB := Lib.hid (HB.out.trans (hb.mono HB.out.size))
        replace HZ10 := Lib.hid (HZ10.out.next hb)
        clear hW HS hb
        clear c0 c1 c2 c3 l0 l1 l2 hq5 hq8 HLq HDk HS1 HX5 HX8 HD3 HL6
        have c0 := cell_of (j := 0) HZ13.out.b11 rfl
        have c1 := cell_of (j := 1) HZ13.out.b11 rfl
        have c2 := cell_of (j := 2) HZ13.out.b11 rfl
        have c3 := cell_of (j := 3) HZ13.out.b11 rfl
        have l0 := cell_of (j := 0) HZ13.out.b10 rfl
        have l1 := cell_of (j := 1) HZ13.out.b10 rfl
        have l2 := cell_of (j := 2) HZ13.out.b10 rfl
        have hq5 := lt_heap HZ13.out.b11
        have hq8 := lt_heap HZ13.out.b10
        have HWX := Lib.hid HST.out.wkX
        have HLq := Lib.hid (HZ13.out.log.mono (M' := NB []) fun _ _ _ => by simp [NB])
        have HDk := Lib.hid HZ13.out.disk
        have HS1 := Lib.hid HST.out.two
        go_cut [16, 17, 18] (fun s10 s11 s12 W => ∃ b10 b11 A n c sA sc pA pc, s10 = .pointer (some ⟨b10, 0, none⟩) ∧ s11 = .pointer (some ⟨b11, 0, none⟩) ∧ s12 = .int .i64 0 ∧ Hid (BS W13 b10 b11 Y A n c sA sc pA pc W))
        case first =>
          have HC := fun (W : World) (hW : Below W13.heap.size W13 W) => show (fun w' => w'.cell? ⟨q13, 0, none⟩ = some (.slice sA13 X.sectors.length sc13) ∧ w'.cell? ⟨q13, 1, none⟩ = some (.slice pA13 X.pending.length pc13) ∧ w'.cell? ⟨q13, 2, none⟩ = some (.int .i64 X.left) ∧ w'.cell? ⟨q13, 3, none⟩ = some (.bool X.stopped) ∧ w'.cell? ⟨p13, 0, none⟩ = some (.int .i64 (X.sectors.length : Int)) ∧ w'.cell? ⟨p13, 1, none⟩ = some (.slice A13 m13 c13) ∧ w'.cell? ⟨p13, 2, none⟩ = some (.int .i64 ((recs X.sectors).length : Int))) W from ⟨(hW.cell (p := ⟨q13, 0, none⟩) hq5).trans c0, (hW.cell (p := ⟨q13, 1, none⟩) hq5).trans c1, (hW.cell (p := ⟨q13, 2, none⟩) hq5).trans c2, (hW.cell (p := ⟨q13, 3, none⟩) hq5).trans c3, (hW.cell (p := ⟨p13, 0, none⟩) hq8).trans l0, (hW.cell (p := ⟨p13, 1, none⟩) hq8).trans l1, (hW.cell (p := ⟨p13, 2, none⟩) hq8).trans l2⟩
          replace HC := Lib.hid HC
          refine wp_region_held_drew (S := (fun w' => w'.cell? ⟨q13, 0, none⟩ = some (.slice sA13 X.sectors.length sc13) ∧ w'.cell? ⟨q13, 1, none⟩ = some (.slice pA13 X.pending.length pc13) ∧ w'.cell? ⟨q13, 2, none⟩ = some (.int .i64 X.left) ∧ w'.cell? ⟨q13, 3, none⟩ = some (.bool X.stopped) ∧ w'.cell? ⟨p13, 0, none⟩ = some (.int .i64 (X.sectors.length : Int)) ∧ w'.cell? ⟨p13, 1, none⟩ = some (.slice A13 m13 c13) ∧ w'.cell? ⟨p13, 2, none⟩ = some (.int .i64 ((recs X.sectors).length : Int)))) (by kernel_rfl) (HC.out _ (Below.drew (Below.refl _ _))) (fun hHeld => ?_)
          change wpAnyH _ _ _ _ _ 15 #[false, false, false, false, false, false, false, false, false, false, false, false, false, false, false] _ W13.drew
          refine takeD (i := 0) (d := some 77) (v := ?_) rfl rfl (by kernel_rfl) (by kernel_rfl) (by kernel_rfl) (fun _ _ _ h => h) (Or.inl ⟨by rfl, ?_⟩) hHeld ?_
          rotate_left 1
          focus (intro w hSw; (try dsimp only at hSw); go_simp; (try with_reducible rfl))
          (repeat (first | simp only [Act.put] | simp only [List.setIfInBounds_toArray] | simp only [List.set_cons_zero] | simp only [List.set_cons_succ]))
          refine takeD (i := 1) (d := some 78) (v := ?_) rfl rfl (by kernel_rfl) (by kernel_rfl) (by kernel_rfl) (fun _ _ _ h => h) (Or.inl ⟨by rfl, ?_⟩) hHeld ?_
          rotate_left 1
          focus (intro w hSw; (try dsimp only at hSw); go_simp; (try with_reducible rfl))
          (repeat (first | simp only [Act.put] | simp only [List.setIfInBounds_toArray] | simp only [List.set_cons_zero] | simp only [List.set_cons_succ]))
          refine takeD (i := 2) (d := some 79) (v := ?_) rfl rfl (by kernel_rfl) (by kernel_rfl) (by kernel_rfl) (fun _ _ _ h => h) (Or.inl ⟨by rfl, ?_⟩) hHeld ?_
          rotate_left 1
          focus (intro w hSw; (try dsimp only at hSw); go_simp; (try with_reducible rfl))
          (repeat (first | simp only [Act.put] | simp only [List.setIfInBounds_toArray] | simp only [List.set_cons_zero] | simp only [List.set_cons_succ]))
          refine takeD (i := 4) (d := some 81) (v := ?_) rfl rfl (by kernel_rfl) (by kernel_rfl) (by kernel_rfl) (fun _ _ _ h => h) (Or.inl ⟨by rfl, ?_⟩) hHeld ?_
          rotate_left 1
          focus (intro w hSw; (try dsimp only at hSw); go_simp; (try with_reducible rfl))
          (repeat (first | simp only [Act.put] | simp only [List.setIfInBounds_toArray] | simp only [List.set_cons_zero] | simp only [List.set_cons_succ]))
          refine nameG (w := W13.drew) fun wq hwq => ?_
          have HB9 : Hid (Below W13.heap.size W13 wq) := Lib.hid (by rw [hwq.out]; exact Below.drew (Below.refl _ _))
          replace HLq := Lib.hid (HLq.out.below (show Below W13.heap.size W13 wq from HB9.out))
          clear hHeld hwq
          apply join2 (F := fun wN b10 b11 A4 n4 c4 A8 n9 c8 sA sc pA pc => Hid (Below W13.heap.size W13 wN) ∧ Hid (IsLog wN (NB [b10, b11]) (.agg #[.int .i64 (Y.sectors.length : Int), .slice A8 n9 c8, .int .i64 ((recs Y.sectors).length : Int)]) (logOf Y [])) ∧ Hid (wN.heap[b10]? = some (.cells #[.int .i64 0, .slice none 0 0, .int .i64 0] 29 (0, 0))) ∧ W13.heap.size ≤ b10 ∧ Hid (wN.heap[b11]? = some (.cells #[.slice none 0 0, .slice none 0 0, .int .i64 0, .bool false] 25 (0, 0))) ∧ W13.heap.size ≤ b11 ∧ b10 ≠ b11 ∧ Hid (IsDisk wN (NB [b10, b11]) (.agg #[.slice sA Y.sectors.length sc, .slice pA Y.pending.length pc, .int .i64 Y.left, .bool Y.stopped]) Y))
          case h1 =>
            intro key211
            apply join2 (F := fun wN b10 b11 A4 n4 c4 A8 n9 c8 sA sc pA pc => Hid (Below W13.heap.size W13 wN) ∧ Hid (IsLog wN (NB [b10]) (.agg #[.int .i64 (Y.sectors.length : Int), .slice A8 n9 c8, .int .i64 ((recs Y.sectors).length : Int)]) (logOf Y [])) ∧ Hid (wN.heap[b10]? = some (.cells #[.int .i64 0, .slice none 0 0, .int .i64 0] 29 (0, 0))) ∧ W13.heap.size ≤ b10 ∧ Hid (IsDisk wN (NB [b10]) (.agg #[.slice sA Y.sectors.length sc, .slice pA Y.pending.length pc, .int .i64 Y.left, .bool Y.stopped]) Y))
            case h1 =>
              intro key210
              apply join2 (F := fun wN b10 b11 A4 n4 c4 A8 n9 c8 sA sc pA pc => Hid (Below W13.heap.size W13 wN) ∧ Hid (IsLog wN (NB [b11]) (.agg #[.int .i64 (Y.sectors.length : Int), .slice A8 n9 c8, .int .i64 ((recs Y.sectors).length : Int)]) (logOf Y [])) ∧ Hid (wN.heap[b11]? = some (.cells #[.slice none 0 0, .slice none 0 0, .int .i64 0, .bool false] 25 (0, 0))) ∧ W13.heap.size ≤ b11 ∧ Hid (IsDisk wN (NB [b11]) (.agg #[.slice sA Y.sectors.length sc, .slice pA Y.pending.length pc, .int .i64 Y.left, .bool Y.stopped]) Y))
              case h1 =>
                intro key201
                apply join2 (F := fun wN b10 b11 A4 n4 c4 A8 n9 c8 sA sc pA pc => Hid (Below W13.heap.size W13 wN) ∧ Hid (IsLog wN (NB []) (.agg #[.int .i64 (Y.sectors.length : Int), .slice A8 n9 c8, .int .i64 ((recs Y.sectors).length : Int)]) (logOf Y [])) ∧ Hid (IsDisk wN (NB []) (.agg #[.slice sA Y.sectors.length sc, .slice pA Y.pending.length pc, .int .i64 Y.left, .bool Y.stopped]) Y))
                case h1 =>
                  intro key200
                  apply join2 (F := fun wN b10 b11 A4 n4 c4 A8 n9 c8 sA sc pA pc => Hid (Below W13.heap.size W13 wN) ∧ Hid (IsLog wN (NB [b10, b11]) (.agg #[.int .i64 (X.sectors.length : Int), .slice A4 n4 c4, .int .i64 ((recs X.sectors).length : Int)]) (logOf X (addAll X [] ys))) ∧ Hid (wN.heap[b10]? = some (.cells #[.int .i64 0, .slice none 0 0, .int .i64 0] 29 (0, 0))) ∧ W13.heap.size ≤ b10 ∧ Hid (wN.heap[b11]? = some (.cells #[.slice none 0 0, .slice none 0 0, .int .i64 0, .bool false] 25 (0, 0))) ∧ W13.heap.size ≤ b11 ∧ b10 ≠ b11)
                  case h1 =>
                    intro key111
                    apply join2 (F := fun wN b10 b11 A4 n4 c4 A8 n9 c8 sA sc pA pc => Hid (Below W13.heap.size W13 wN) ∧ Hid (IsLog wN (NB [b10]) (.agg #[.int .i64 (X.sectors.length : Int), .slice A4 n4 c4, .int .i64 ((recs X.sectors).length : Int)]) (logOf X (addAll X [] ys))) ∧ Hid (wN.heap[b10]? = some (.cells #[.int .i64 0, .slice none 0 0, .int .i64 0] 29 (0, 0))) ∧ W13.heap.size ≤ b10)
                    case h1 =>
                      intro key110
                      apply join2 (F := fun wN b10 b11 A4 n4 c4 A8 n9 c8 sA sc pA pc => Hid (Below W13.heap.size W13 wN) ∧ Hid (IsLog wN (NB [b11]) (.agg #[.int .i64 (X.sectors.length : Int), .slice A4 n4 c4, .int .i64 ((recs X.sectors).length : Int)]) (logOf X (addAll X [] ys))) ∧ Hid (wN.heap[b11]? = some (.cells #[.slice none 0 0, .slice none 0 0, .int .i64 0, .bool false] 25 (0, 0))) ∧ W13.heap.size ≤ b11)
                      case h1 =>
                        intro key101
                        apply join2 (F := fun wN b10 b11 A4 n4 c4 A8 n9 c8 sA sc pA pc => Hid (Below W13.heap.size W13 wN) ∧ Hid (IsLog wN (NB []) (.agg #[.int .i64 (X.sectors.length : Int), .slice A4 n4 c4, .int .i64 ((recs X.sectors).length : Int)]) (logOf X (addAll X [] ys))))
                        case h1 =>
                          intro key100
                          apply join2 (F := fun wN b10 b11 A4 n4 c4 A8 n9 c8 sA sc pA pc => Hid (Below W13.heap.size W13 wN) ∧ Hid (IsLog wN (NB [b10, b11]) (.agg #[.int .i64 (X.sectors.length : Int), .slice A13 m13 c13, .int .i64 ((recs X.sectors).length : Int)]) (logOf X [])) ∧ Hid (wN.heap[b10]? = some (.cells #[.int .i64 0, .slice none 0 0, .int .i64 0] 29 (0, 0))) ∧ W13.heap.size ≤ b10 ∧ Hid (wN.heap[b11]? = some (.cells #[.slice none 0 0, .slice none 0 0, .int .i64 0, .bool false] 25 (0, 0))) ∧ W13.heap.size ≤ b11 ∧ b10 ≠ b11)
                          case h1 =>
                            intro key011
                            apply join2 (F := fun wN b10 b11 A4 n4 c4 A8 n9 c8 sA sc pA pc => Hid (Below W13.heap.size W13 wN) ∧ Hid (IsLog wN (NB [b10]) (.agg #[.int .i64 (X.sectors.length : Int), .slice A13 m13 c13, .int .i64 ((recs X.sectors).length : Int)]) (logOf X [])) ∧ Hid (wN.heap[b10]? = some (.cells #[.int .i64 0, .slice none 0 0, .int .i64 0] 29 (0, 0))) ∧ W13.heap.size ≤ b10)
                            case h1 =>
                              intro key010
                              apply join2 (F := fun wN b10 b11 A4 n4 c4 A8 n9 c8 sA sc pA pc => Hid (Below W13.heap.size W13 wN) ∧ Hid (IsLog wN (NB [b11]) (.agg #[.int .i64 (X.sectors.length : Int), .slice A13 m13 c13, .int .i64 ((recs X.sectors).length : Int)]) (logOf X [])) ∧ Hid (wN.heap[b11]? = some (.cells #[.slice none 0 0, .slice none 0 0, .int .i64 0, .bool false] 25 (0, 0))) ∧ W13.heap.size ≤ b11)
                              case h1 =>
                                intro key001
                                obtain ⟨b10, b11, A4, n4, c4, A8, n9, c8, sA, sc, pA, pc, -⟩ : ∃ (b10 : Nat) (b11 : Nat) (A4 : Option Addr) (n4 : Nat) (c4 : Nat) (A8 : Option Addr) (n9 : Nat) (c8 : Nat) (sA : Option Addr) (sc : Nat) (pA : Option Addr) (pc : Nat), True := ⟨0, 0, none, 0, 0, none, 0, 0, none, 0, none, 0, trivial⟩
                                refine wpAnyH_ready (rs := [3, 10, 11]) (by kernel_rfl) (by simp) ?_
                                refine AllReadyH.cons rfl (fun K hK => ?_) (AllReadyH.cons rfl (fun K hK => ?_) (AllReadyH.cons rfl (fun K hK => ?_) AllReadyH.nil))
                                · skip
                                  go_simp
                                  go_at_call 28
                                  refine (add_any wq (NB []) X ([]) _ HLq.out HWX.out.ok (fit_logOf HWX.out) ys _ ⟨bA, bc, rfl, HCB.out.1, HCB.out.2, (HBR.out.keep fun p _ hp => (HB.out.trans (HB9.out.mono HB.out.size)).cell hp).mono fun b _ hb hin => by cases hin⟩ HFB.out).mono ?_
                                  rintro e w101 ⟨v9, rfl, hl, hb⟩
                                  obtain ⟨A4, n4, c4, rfl, hl⟩ := form_logOf hl
                                  replace HLq := Lib.hid (hl.mono (M' := NB []) fun q _ hq => NB.new (InW.nil _) hq)
                                  clear hl
                                  replace HB9 := Lib.hid (HB9.out.trans (hb.mono HB9.out.size))
                                  clear hb
                                  refine hK.out _ _ (HC.out _ HB9.out) (fun hHeld => ?_)
                                  clear hK K
                                  (repeat (first | simp only [Act.put] | simp only [List.setIfInBounds_toArray] | simp only [List.set_cons_zero] | simp only [List.set_cons_succ]))
                                  clear hHeld
                                  exact key100 w101 b10 b11 A4 n4 c4 A8 n9 c8 sA sc pA pc ⟨HB9, HLq⟩
                                · skip
                                  refine wpOp_al (d := some 16) (obj := .cells #[.int .i64 0, .slice none 0 0, .int .i64 0] 29) rfl rfl (run_alL _ rfl) ?_
                                  obtain ⟨b10, hbn⟩ : ∃ b, b = wq.heap.size := ⟨_, rfl⟩
                                  rw [← hbn]
                                  obtain ⟨w102, hwn⟩ : ∃ w', w' = wq.alloc (.cells #[.int .i64 0, .slice none 0 0, .int .i64 0] 29) := ⟨_, rfl⟩
                                  rw [← hwn]
                                  have hb : Below wq.heap.size wq w102 := by rw [hwn]; exact (Below.refl _ _).alloc (Nat.le_refl _) _
                                  have HX10 := Lib.hid (show w102.heap[b10]? = some (.cells #[.int .i64 0, .slice none 0 0, .int .i64 0] 29 (0, 0)) by rw [hwn, hbn]; exact heap_alloc_new _ _)
                                  have h10 : W13.heap.size ≤ b10 := by have := HB9.out.size; omega
                                  replace HLq := Lib.hid ((HLq.out.mono (M' := NB [b10]) fun b hlt hM hin => by simp only [List.mem_cons, List.not_mem_nil, or_false] at hin; rcases hin with rfl <;> first | omega | exact hM (by simp)).below hb)
                                  replace HB9 := Lib.hid (HB9.out.trans (hb.mono HB9.out.size))
                                  clear hb hwn hbn
                                  refine hK.out _ _ (HC.out _ HB9.out) (fun hHeld => ?_)
                                  clear hK K hHeld
                                  (repeat (first | simp only [Act.put] | simp only [List.setIfInBounds_toArray] | simp only [List.set_cons_zero] | simp only [List.set_cons_succ]))
                                  exact key010 w102 b10 b11 A4 n4 c4 A8 n9 c8 sA sc pA pc ⟨HB9, HLq, HX10, h10⟩
                                · skip
                                  refine wpOp_al (d := some 17) (obj := .cells #[.slice none 0 0, .slice none 0 0, .int .i64 0, .bool false] 25) rfl rfl (run_alD _ rfl) ?_
                                  obtain ⟨b11, hbn⟩ : ∃ b, b = wq.heap.size := ⟨_, rfl⟩
                                  rw [← hbn]
                                  obtain ⟨w103, hwn⟩ : ∃ w', w' = wq.alloc (.cells #[.slice none 0 0, .slice none 0 0, .int .i64 0, .bool false] 25) := ⟨_, rfl⟩
                                  rw [← hwn]
                                  have hb : Below wq.heap.size wq w103 := by rw [hwn]; exact (Below.refl _ _).alloc (Nat.le_refl _) _
                                  have HX11 := Lib.hid (show w103.heap[b11]? = some (.cells #[.slice none 0 0, .slice none 0 0, .int .i64 0, .bool false] 25 (0, 0)) by rw [hwn, hbn]; exact heap_alloc_new _ _)
                                  have h11 : W13.heap.size ≤ b11 := by have := HB9.out.size; omega
                                  replace HLq := Lib.hid ((HLq.out.mono (M' := NB [b11]) fun b hlt hM hin => by simp only [List.mem_cons, List.not_mem_nil, or_false] at hin; rcases hin with rfl <;> first | omega | exact hM (by simp)).below hb)
                                  replace HB9 := Lib.hid (HB9.out.trans (hb.mono HB9.out.size))
                                  clear hb hwn hbn
                                  refine hK.out _ _ (HC.out _ HB9.out) (fun hHeld => ?_)
                                  clear hK K hHeld
                                  (repeat (first | simp only [Act.put] | simp only [List.setIfInBounds_toArray] | simp only [List.set_cons_zero] | simp only [List.set_cons_succ]))
                                  exact key001 w103 b10 b11 A4 n4 c4 A8 n9 c8 sA sc pA pc ⟨HB9, HLq, HX11, h11⟩
                              case h2 =>
                                intro wz001 b10 b11 A4 n4 c4 A8 n9 c8 sA sc pA pc ⟨HB9, HLq, HX11, h11⟩
                                (try dsimp only)
                                refine wpAnyH_ready (rs := [3, 10]) (by kernel_rfl) (by simp) ?_
                                refine AllReadyH.cons rfl (fun K hK => ?_) (AllReadyH.cons rfl (fun K hK => ?_) AllReadyH.nil)
                                · skip
                                  go_simp
                                  go_at_call 28
                                  refine (add_any wz001 (NB [b11]) X ([]) _ HLq.out HWX.out.ok (fit_logOf HWX.out) ys _ ⟨bA, bc, rfl, HCB.out.1, HCB.out.2, (HBR.out.keep fun p _ hp => (HB.out.trans (HB9.out.mono HB.out.size)).cell hp).mono fun b _ hb hin => by simp only [List.mem_cons, List.not_mem_nil, or_false] at hin; have := HB.out.size; omega⟩ HFB.out).mono ?_
                                  rintro e w104 ⟨v9, rfl, hl, hb⟩
                                  obtain ⟨A4, n4, c4, rfl, hl⟩ := form_logOf hl
                                  replace HLq := Lib.hid (hl.mono (M' := NB [b11]) fun q _ hq => NB.new ((InW.nil _).cons (lt_heap HX11.out)) hq)
                                  clear hl
                                  replace HX11 := Lib.hid ((hb.block _ (lt_heap HX11.out)).trans HX11.out)
                                  replace HB9 := Lib.hid (HB9.out.trans (hb.mono HB9.out.size))
                                  clear hb
                                  refine hK.out _ _ (HC.out _ HB9.out) (fun hHeld => ?_)
                                  clear hK K
                                  (repeat (first | simp only [Act.put] | simp only [List.setIfInBounds_toArray] | simp only [List.set_cons_zero] | simp only [List.set_cons_succ]))
                                  clear hHeld
                                  exact key101 w104 b10 b11 A4 n4 c4 A8 n9 c8 sA sc pA pc ⟨HB9, HLq, HX11, h11⟩
                                · skip
                                  refine wpOp_al (d := some 16) (obj := .cells #[.int .i64 0, .slice none 0 0, .int .i64 0] 29) rfl rfl (run_alL _ rfl) ?_
                                  obtain ⟨b10, hbn⟩ : ∃ b, b = wz001.heap.size := ⟨_, rfl⟩
                                  rw [← hbn]
                                  obtain ⟨w105, hwn⟩ : ∃ w', w' = wz001.alloc (.cells #[.int .i64 0, .slice none 0 0, .int .i64 0] 29) := ⟨_, rfl⟩
                                  rw [← hwn]
                                  have hb : Below wz001.heap.size wz001 w105 := by rw [hwn]; exact (Below.refl _ _).alloc (Nat.le_refl _) _
                                  have HX10 := Lib.hid (show w105.heap[b10]? = some (.cells #[.int .i64 0, .slice none 0 0, .int .i64 0] 29 (0, 0)) by rw [hwn, hbn]; exact heap_alloc_new _ _)
                                  have h10 : W13.heap.size ≤ b10 := by have := HB9.out.size; omega
                                  have hne : b10 ≠ b11 := by have := lt_heap HX11.out; omega
                                  replace HX11 := Lib.hid ((hb.block _ (lt_heap HX11.out)).trans HX11.out)
                                  replace HLq := Lib.hid ((HLq.out.mono (M' := NB [b10, b11]) fun b hlt hM hin => by simp only [List.mem_cons, List.not_mem_nil, or_false] at hin; rcases hin with rfl | rfl <;> first | omega | exact hM (by simp)).below hb)
                                  replace HB9 := Lib.hid (HB9.out.trans (hb.mono HB9.out.size))
                                  clear hb hwn hbn
                                  refine hK.out _ _ (HC.out _ HB9.out) (fun hHeld => ?_)
                                  clear hK K hHeld
                                  (repeat (first | simp only [Act.put] | simp only [List.setIfInBounds_toArray] | simp only [List.set_cons_zero] | simp only [List.set_cons_succ]))
                                  exact key011 w105 b10 b11 A4 n4 c4 A8 n9 c8 sA sc pA pc ⟨HB9, HLq, HX10, h10, HX11, h11, hne⟩
                            case h2 =>
                              intro wz010 b10 b11 A4 n4 c4 A8 n9 c8 sA sc pA pc ⟨HB9, HLq, HX10, h10⟩
                              (try dsimp only)
                              refine wpAnyH_ready (rs := [3, 11]) (by kernel_rfl) (by simp) ?_
                              refine AllReadyH.cons rfl (fun K hK => ?_) (AllReadyH.cons rfl (fun K hK => ?_) AllReadyH.nil)
                              · skip
                                go_simp
                                go_at_call 28
                                refine (add_any wz010 (NB [b10]) X ([]) _ HLq.out HWX.out.ok (fit_logOf HWX.out) ys _ ⟨bA, bc, rfl, HCB.out.1, HCB.out.2, (HBR.out.keep fun p _ hp => (HB.out.trans (HB9.out.mono HB.out.size)).cell hp).mono fun b _ hb hin => by simp only [List.mem_cons, List.not_mem_nil, or_false] at hin; have := HB.out.size; omega⟩ HFB.out).mono ?_
                                rintro e w106 ⟨v9, rfl, hl, hb⟩
                                obtain ⟨A4, n4, c4, rfl, hl⟩ := form_logOf hl
                                replace HLq := Lib.hid (hl.mono (M' := NB [b10]) fun q _ hq => NB.new ((InW.nil _).cons (lt_heap HX10.out)) hq)
                                clear hl
                                replace HX10 := Lib.hid ((hb.block _ (lt_heap HX10.out)).trans HX10.out)
                                replace HB9 := Lib.hid (HB9.out.trans (hb.mono HB9.out.size))
                                clear hb
                                refine hK.out _ _ (HC.out _ HB9.out) (fun hHeld => ?_)
                                clear hK K
                                (repeat (first | simp only [Act.put] | simp only [List.setIfInBounds_toArray] | simp only [List.set_cons_zero] | simp only [List.set_cons_succ]))
                                clear hHeld
                                exact key110 w106 b10 b11 A4 n4 c4 A8 n9 c8 sA sc pA pc ⟨HB9, HLq, HX10, h10⟩
                              · skip
                                refine wpOp_al (d := some 17) (obj := .cells #[.slice none 0 0, .slice none 0 0, .int .i64 0, .bool false] 25) rfl rfl (run_alD _ rfl) ?_
                                obtain ⟨b11, hbn⟩ : ∃ b, b = wz010.heap.size := ⟨_, rfl⟩
                                rw [← hbn]
                                obtain ⟨w107, hwn⟩ : ∃ w', w' = wz010.alloc (.cells #[.slice none 0 0, .slice none 0 0, .int .i64 0, .bool false] 25) := ⟨_, rfl⟩
                                rw [← hwn]
                                have hb : Below wz010.heap.size wz010 w107 := by rw [hwn]; exact (Below.refl _ _).alloc (Nat.le_refl _) _
                                have HX11 := Lib.hid (show w107.heap[b11]? = some (.cells #[.slice none 0 0, .slice none 0 0, .int .i64 0, .bool false] 25 (0, 0)) by rw [hwn, hbn]; exact heap_alloc_new _ _)
                                have h11 : W13.heap.size ≤ b11 := by have := HB9.out.size; omega
                                have hne : b10 ≠ b11 := by have := lt_heap HX10.out; omega
                                replace HX10 := Lib.hid ((hb.block _ (lt_heap HX10.out)).trans HX10.out)
                                replace HLq := Lib.hid ((HLq.out.mono (M' := NB [b10, b11]) fun b hlt hM hin => by simp only [List.mem_cons, List.not_mem_nil, or_false] at hin; rcases hin with rfl | rfl <;> first | omega | exact hM (by simp)).below hb)
                                replace HB9 := Lib.hid (HB9.out.trans (hb.mono HB9.out.size))
                                clear hb hwn hbn
                                refine hK.out _ _ (HC.out _ HB9.out) (fun hHeld => ?_)
                                clear hK K hHeld
                                (repeat (first | simp only [Act.put] | simp only [List.setIfInBounds_toArray] | simp only [List.set_cons_zero] | simp only [List.set_cons_succ]))
                                exact key011 w107 b10 b11 A4 n4 c4 A8 n9 c8 sA sc pA pc ⟨HB9, HLq, HX10, h10, HX11, h11, hne⟩
                          case h2 =>
                            intro wz011 b10 b11 A4 n4 c4 A8 n9 c8 sA sc pA pc ⟨HB9, HLq, HX10, h10, HX11, h11, hne⟩
                            (try dsimp only)
                            refine wpAnyH_ready (rs := [3]) (by kernel_rfl) (by simp) ?_
                            refine AllReadyH.cons rfl (fun K hK => ?_) AllReadyH.nil
                            · skip
                              go_simp
                              go_at_call 28
                              refine (add_any wz011 (NB [b10, b11]) X ([]) _ HLq.out HWX.out.ok (fit_logOf HWX.out) ys _ ⟨bA, bc, rfl, HCB.out.1, HCB.out.2, (HBR.out.keep fun p _ hp => (HB.out.trans (HB9.out.mono HB.out.size)).cell hp).mono fun b _ hb hin => by simp only [List.mem_cons, List.not_mem_nil, or_false] at hin; have := HB.out.size; omega⟩ HFB.out).mono ?_
                              rintro e w108 ⟨v9, rfl, hl, hb⟩
                              obtain ⟨A4, n4, c4, rfl, hl⟩ := form_logOf hl
                              replace HLq := Lib.hid (hl.mono (M' := NB [b10, b11]) fun q _ hq => NB.new (((InW.nil _).cons (lt_heap HX11.out)).cons (lt_heap HX10.out)) hq)
                              clear hl
                              replace HX10 := Lib.hid ((hb.block _ (lt_heap HX10.out)).trans HX10.out)
                              replace HX11 := Lib.hid ((hb.block _ (lt_heap HX11.out)).trans HX11.out)
                              replace HB9 := Lib.hid (HB9.out.trans (hb.mono HB9.out.size))
                              clear hb
                              refine hK.out _ _ (HC.out _ HB9.out) (fun hHeld => ?_)
                              clear hK K
                              (repeat (first | simp only [Act.put] | simp only [List.setIfInBounds_toArray] | simp only [List.set_cons_zero] | simp only [List.set_cons_succ]))
                              clear hHeld
                              exact key111 w108 b10 b11 A4 n4 c4 A8 n9 c8 sA sc pA pc ⟨HB9, HLq, HX10, h10, HX11, h11, hne⟩
                        case h2 =>
                          intro wz100 b10 b11 A4 n4 c4 A8 n9 c8 sA sc pA pc ⟨HB9, HLq⟩
                          (try dsimp only)
                          refine wpAnyH_ready (rs := [5, 10, 11]) (by kernel_rfl) (by simp) ?_
                          refine AllReadyH.cons rfl (fun K hK => ?_) (AllReadyH.cons rfl (fun K hK => ?_) (AllReadyH.cons rfl (fun K hK => ?_) AllReadyH.nil))
                          · skip
                            go_simp
                            go_at_call 21
                            have CO := syncW_any wz100 (NB []) (logOf X (addAll X [] ys)) _ HLq.out (fit_of_used (by have := (addAll_fit (fit_logOf HWX.out) ys); have := okB_sized HWX.out.ok; show used (recs X.sectors ++ addAll X [] ys) ≤ 4096; omega)) X _ ((HDk.out.below HB9.out).mono fun b _ hb hin => by cases hin)
                            rw [HS1.out] at CO
                            refine CO.mono ?_
                            rintro e w109 ⟨lv, dv, rfl, hl, hd, hb⟩
                            clear CO
                            obtain ⟨A8, n9, c8, rfl, hl⟩ := form_logOf hl
                            obtain ⟨sA, sc, pA, pc, rfl, -⟩ := hd.parts
                            replace HLq := Lib.hid (hl.mono (M' := NB []) fun q _ hq => NB.new (InW.nil _) hq)
                            have HDq := Lib.hid (hd.mono (M' := NB []) fun q _ hq => NB.new (InW.nil _) hq)
                            clear hl hd
                            replace HB9 := Lib.hid (HB9.out.trans (hb.mono HB9.out.size))
                            clear hb
                            refine hK.out _ _ (HC.out _ HB9.out) (fun hHeld => ?_)
                            clear hK K
                            (repeat (first | simp only [List.setIfInBounds_toArray] | simp only [List.set_cons_zero] | simp only [List.set_cons_succ]))
                            refine takeD (i := 6) (d := some 76) (v := ?_) rfl rfl (by kernel_rfl) (by kernel_rfl) (by kernel_rfl) (fun _ _ _ h => h) (Or.inl ⟨by rfl, ?_⟩) hHeld ?_
                            rotate_left 1
                            focus (intro w hSw; (try dsimp only at hSw); go_simp; (try with_reducible rfl))
                            (repeat (first | simp only [Act.put] | simp only [List.setIfInBounds_toArray] | simp only [List.set_cons_zero] | simp only [List.set_cons_succ]))
                            refine takeD (i := 7) (d := some 83) (v := ?_) rfl rfl (by kernel_rfl) (by kernel_rfl) (by kernel_rfl) (fun _ _ _ h => h) (Or.inl ⟨by rfl, ?_⟩) hHeld ?_
                            rotate_left 1
                            focus (intro w hSw; (try dsimp only at hSw); go_simp; (try with_reducible rfl))
                            (repeat (first | simp only [Act.put] | simp only [List.setIfInBounds_toArray] | simp only [List.set_cons_zero] | simp only [List.set_cons_succ]))
                            refine takeD (i := 8) (d := some 84) (v := ?_) rfl rfl (by kernel_rfl) (by kernel_rfl) (by kernel_rfl) (fun _ _ _ h => h) (Or.inl ⟨by rfl, ?_⟩) hHeld ?_
                            rotate_left 1
                            focus (intro w hSw; (try dsimp only at hSw); go_simp; (try with_reducible rfl))
                            (repeat (first | simp only [Act.put] | simp only [List.setIfInBounds_toArray] | simp only [List.set_cons_zero] | simp only [List.set_cons_succ]))
                            refine takeD (i := 9) (d := some 85) (v := ?_) rfl rfl (by kernel_rfl) (by kernel_rfl) (by kernel_rfl) (fun _ _ _ h => h) (Or.inl ⟨by rfl, ?_⟩) hHeld ?_
                            rotate_left 1
                            focus (intro w hSw; (try dsimp only at hSw); go_simp; (try with_reducible rfl))
                            (repeat (first | simp only [Act.put] | simp only [List.setIfInBounds_toArray] | simp only [List.set_cons_zero] | simp only [List.set_cons_succ]))
                            clear hHeld
                            exact key200 w109 b10 b11 A4 n4 c4 A8 n9 c8 sA sc pA pc ⟨HB9, HLq, HDq⟩
                          · skip
                            refine wpOp_al (d := some 16) (obj := .cells #[.int .i64 0, .slice none 0 0, .int .i64 0] 29) rfl rfl (run_alL _ rfl) ?_
                            obtain ⟨b10, hbn⟩ : ∃ b, b = wz100.heap.size := ⟨_, rfl⟩
                            rw [← hbn]
                            obtain ⟨w110, hwn⟩ : ∃ w', w' = wz100.alloc (.cells #[.int .i64 0, .slice none 0 0, .int .i64 0] 29) := ⟨_, rfl⟩
                            rw [← hwn]
                            have hb : Below wz100.heap.size wz100 w110 := by rw [hwn]; exact (Below.refl _ _).alloc (Nat.le_refl _) _
                            have HX10 := Lib.hid (show w110.heap[b10]? = some (.cells #[.int .i64 0, .slice none 0 0, .int .i64 0] 29 (0, 0)) by rw [hwn, hbn]; exact heap_alloc_new _ _)
                            have h10 : W13.heap.size ≤ b10 := by have := HB9.out.size; omega
                            replace HLq := Lib.hid ((HLq.out.mono (M' := NB [b10]) fun b hlt hM hin => by simp only [List.mem_cons, List.not_mem_nil, or_false] at hin; rcases hin with rfl <;> first | omega | exact hM (by simp)).below hb)
                            replace HB9 := Lib.hid (HB9.out.trans (hb.mono HB9.out.size))
                            clear hb hwn hbn
                            refine hK.out _ _ (HC.out _ HB9.out) (fun hHeld => ?_)
                            clear hK K hHeld
                            (repeat (first | simp only [Act.put] | simp only [List.setIfInBounds_toArray] | simp only [List.set_cons_zero] | simp only [List.set_cons_succ]))
                            exact key110 w110 b10 b11 A4 n4 c4 A8 n9 c8 sA sc pA pc ⟨HB9, HLq, HX10, h10⟩
                          · skip
                            refine wpOp_al (d := some 17) (obj := .cells #[.slice none 0 0, .slice none 0 0, .int .i64 0, .bool false] 25) rfl rfl (run_alD _ rfl) ?_
                            obtain ⟨b11, hbn⟩ : ∃ b, b = wz100.heap.size := ⟨_, rfl⟩
                            rw [← hbn]
                            obtain ⟨w111, hwn⟩ : ∃ w', w' = wz100.alloc (.cells #[.slice none 0 0, .slice none 0 0, .int .i64 0, .bool false] 25) := ⟨_, rfl⟩
                            rw [← hwn]
                            have hb : Below wz100.heap.size wz100 w111 := by rw [hwn]; exact (Below.refl _ _).alloc (Nat.le_refl _) _
                            have HX11 := Lib.hid (show w111.heap[b11]? = some (.cells #[.slice none 0 0, .slice none 0 0, .int .i64 0, .bool false] 25 (0, 0)) by rw [hwn, hbn]; exact heap_alloc_new _ _)
                            have h11 : W13.heap.size ≤ b11 := by have := HB9.out.size; omega
                            replace HLq := Lib.hid ((HLq.out.mono (M' := NB [b11]) fun b hlt hM hin => by simp only [List.mem_cons, List.not_mem_nil, or_false] at hin; rcases hin with rfl <;> first | omega | exact hM (by simp)).below hb)
                            replace HB9 := Lib.hid (HB9.out.trans (hb.mono HB9.out.size))
                            clear hb hwn hbn
                            refine hK.out _ _ (HC.out _ HB9.out) (fun hHeld => ?_)
                            clear hK K hHeld
                            (repeat (first | simp only [Act.put] | simp only [List.setIfInBounds_toArray] | simp only [List.set_cons_zero] | simp only [List.set_cons_succ]))
                            exact key101 w111 b10 b11 A4 n4 c4 A8 n9 c8 sA sc pA pc ⟨HB9, HLq, HX11, h11⟩
                      case h2 =>
                        intro wz101 b10 b11 A4 n4 c4 A8 n9 c8 sA sc pA pc ⟨HB9, HLq, HX11, h11⟩
                        (try dsimp only)
                        refine wpAnyH_ready (rs := [5, 10]) (by kernel_rfl) (by simp) ?_
                        refine AllReadyH.cons rfl (fun K hK => ?_) (AllReadyH.cons rfl (fun K hK => ?_) AllReadyH.nil)
                        · skip
                          go_simp
                          go_at_call 21
                          have CO := syncW_any wz101 (NB [b11]) (logOf X (addAll X [] ys)) _ HLq.out (fit_of_used (by have := (addAll_fit (fit_logOf HWX.out) ys); have := okB_sized HWX.out.ok; show used (recs X.sectors ++ addAll X [] ys) ≤ 4096; omega)) X _ ((HDk.out.below HB9.out).mono fun b _ hb hin => by simp only [List.mem_cons, List.not_mem_nil, or_false] at hin; omega)
                          rw [HS1.out] at CO
                          refine CO.mono ?_
                          rintro e w112 ⟨lv, dv, rfl, hl, hd, hb⟩
                          clear CO
                          obtain ⟨A8, n9, c8, rfl, hl⟩ := form_logOf hl
                          obtain ⟨sA, sc, pA, pc, rfl, -⟩ := hd.parts
                          replace HLq := Lib.hid (hl.mono (M' := NB [b11]) fun q _ hq => NB.new ((InW.nil _).cons (lt_heap HX11.out)) hq)
                          have HDq := Lib.hid (hd.mono (M' := NB [b11]) fun q _ hq => NB.new ((InW.nil _).cons (lt_heap HX11.out)) hq)
                          clear hl hd
                          replace HX11 := Lib.hid ((hb.block _ (lt_heap HX11.out)).trans HX11.out)
                          replace HB9 := Lib.hid (HB9.out.trans (hb.mono HB9.out.size))
                          clear hb
                          refine hK.out _ _ (HC.out _ HB9.out) (fun hHeld => ?_)
                          clear hK K
                          (repeat (first | simp only [List.setIfInBounds_toArray] | simp only [List.set_cons_zero] | simp only [List.set_cons_succ]))
                          refine takeD (i := 6) (d := some 76) (v := ?_) rfl rfl (by kernel_rfl) (by kernel_rfl) (by kernel_rfl) (fun _ _ _ h => h) (Or.inl ⟨by rfl, ?_⟩) hHeld ?_
                          rotate_left 1
                          focus (intro w hSw; (try dsimp only at hSw); go_simp; (try with_reducible rfl))
                          (repeat (first | simp only [Act.put] | simp only [List.setIfInBounds_toArray] | simp only [List.set_cons_zero] | simp only [List.set_cons_succ]))
                          refine takeD (i := 7) (d := some 83) (v := ?_) rfl rfl (by kernel_rfl) (by kernel_rfl) (by kernel_rfl) (fun _ _ _ h => h) (Or.inl ⟨by rfl, ?_⟩) hHeld ?_
                          rotate_left 1
                          focus (intro w hSw; (try dsimp only at hSw); go_simp; (try with_reducible rfl))
                          (repeat (first | simp only [Act.put] | simp only [List.setIfInBounds_toArray] | simp only [List.set_cons_zero] | simp only [List.set_cons_succ]))
                          refine takeD (i := 8) (d := some 84) (v := ?_) rfl rfl (by kernel_rfl) (by kernel_rfl) (by kernel_rfl) (fun _ _ _ h => h) (Or.inl ⟨by rfl, ?_⟩) hHeld ?_
                          rotate_left 1
                          focus (intro w hSw; (try dsimp only at hSw); go_simp; (try with_reducible rfl))
                          (repeat (first | simp only [Act.put] | simp only [List.setIfInBounds_toArray] | simp only [List.set_cons_zero] | simp only [List.set_cons_succ]))
                          refine takeD (i := 9) (d := some 85) (v := ?_) rfl rfl (by kernel_rfl) (by kernel_rfl) (by kernel_rfl) (fun _ _ _ h => h) (Or.inl ⟨by rfl, ?_⟩) hHeld ?_
                          rotate_left 1
                          focus (intro w hSw; (try dsimp only at hSw); go_simp; (try with_reducible rfl))
                          (repeat (first | simp only [Act.put] | simp only [List.setIfInBounds_toArray] | simp only [List.set_cons_zero] | simp only [List.set_cons_succ]))
                          clear hHeld
                          exact key201 w112 b10 b11 A4 n4 c4 A8 n9 c8 sA sc pA pc ⟨HB9, HLq, HX11, h11, HDq⟩
                        · skip
                          refine wpOp_al (d := some 16) (obj := .cells #[.int .i64 0, .slice none 0 0, .int .i64 0] 29) rfl rfl (run_alL _ rfl) ?_
                          obtain ⟨b10, hbn⟩ : ∃ b, b = wz101.heap.size := ⟨_, rfl⟩
                          rw [← hbn]
                          obtain ⟨w113, hwn⟩ : ∃ w', w' = wz101.alloc (.cells #[.int .i64 0, .slice none 0 0, .int .i64 0] 29) := ⟨_, rfl⟩
                          rw [← hwn]
                          have hb : Below wz101.heap.size wz101 w113 := by rw [hwn]; exact (Below.refl _ _).alloc (Nat.le_refl _) _
                          have HX10 := Lib.hid (show w113.heap[b10]? = some (.cells #[.int .i64 0, .slice none 0 0, .int .i64 0] 29 (0, 0)) by rw [hwn, hbn]; exact heap_alloc_new _ _)
                          have h10 : W13.heap.size ≤ b10 := by have := HB9.out.size; omega
                          have hne : b10 ≠ b11 := by have := lt_heap HX11.out; omega
                          replace HX11 := Lib.hid ((hb.block _ (lt_heap HX11.out)).trans HX11.out)
                          replace HLq := Lib.hid ((HLq.out.mono (M' := NB [b10, b11]) fun b hlt hM hin => by simp only [List.mem_cons, List.not_mem_nil, or_false] at hin; rcases hin with rfl | rfl <;> first | omega | exact hM (by simp)).below hb)
                          replace HB9 := Lib.hid (HB9.out.trans (hb.mono HB9.out.size))
                          clear hb hwn hbn
                          refine hK.out _ _ (HC.out _ HB9.out) (fun hHeld => ?_)
                          clear hK K hHeld
                          (repeat (first | simp only [Act.put] | simp only [List.setIfInBounds_toArray] | simp only [List.set_cons_zero] | simp only [List.set_cons_succ]))
                          exact key111 w113 b10 b11 A4 n4 c4 A8 n9 c8 sA sc pA pc ⟨HB9, HLq, HX10, h10, HX11, h11, hne⟩
                    case h2 =>
                      intro wz110 b10 b11 A4 n4 c4 A8 n9 c8 sA sc pA pc ⟨HB9, HLq, HX10, h10⟩
                      (try dsimp only)
                      refine wpAnyH_ready (rs := [5, 11]) (by kernel_rfl) (by simp) ?_
                      refine AllReadyH.cons rfl (fun K hK => ?_) (AllReadyH.cons rfl (fun K hK => ?_) AllReadyH.nil)
                      · skip
                        go_simp
                        go_at_call 21
                        have CO := syncW_any wz110 (NB [b10]) (logOf X (addAll X [] ys)) _ HLq.out (fit_of_used (by have := (addAll_fit (fit_logOf HWX.out) ys); have := okB_sized HWX.out.ok; show used (recs X.sectors ++ addAll X [] ys) ≤ 4096; omega)) X _ ((HDk.out.below HB9.out).mono fun b _ hb hin => by simp only [List.mem_cons, List.not_mem_nil, or_false] at hin; omega)
                        rw [HS1.out] at CO
                        refine CO.mono ?_
                        rintro e w114 ⟨lv, dv, rfl, hl, hd, hb⟩
                        clear CO
                        obtain ⟨A8, n9, c8, rfl, hl⟩ := form_logOf hl
                        obtain ⟨sA, sc, pA, pc, rfl, -⟩ := hd.parts
                        replace HLq := Lib.hid (hl.mono (M' := NB [b10]) fun q _ hq => NB.new ((InW.nil _).cons (lt_heap HX10.out)) hq)
                        have HDq := Lib.hid (hd.mono (M' := NB [b10]) fun q _ hq => NB.new ((InW.nil _).cons (lt_heap HX10.out)) hq)
                        clear hl hd
                        replace HX10 := Lib.hid ((hb.block _ (lt_heap HX10.out)).trans HX10.out)
                        replace HB9 := Lib.hid (HB9.out.trans (hb.mono HB9.out.size))
                        clear hb
                        refine hK.out _ _ (HC.out _ HB9.out) (fun hHeld => ?_)
                        clear hK K
                        (repeat (first | simp only [List.setIfInBounds_toArray] | simp only [List.set_cons_zero] | simp only [List.set_cons_succ]))
                        refine takeD (i := 6) (d := some 76) (v := ?_) rfl rfl (by kernel_rfl) (by kernel_rfl) (by kernel_rfl) (fun _ _ _ h => h) (Or.inl ⟨by rfl, ?_⟩) hHeld ?_
                        rotate_left 1
                        focus (intro w hSw; (try dsimp only at hSw); go_simp; (try with_reducible rfl))
                        (repeat (first | simp only [Act.put] | simp only [List.setIfInBounds_toArray] | simp only [List.set_cons_zero] | simp only [List.set_cons_succ]))
                        refine takeD (i := 7) (d := some 83) (v := ?_) rfl rfl (by kernel_rfl) (by kernel_rfl) (by kernel_rfl) (fun _ _ _ h => h) (Or.inl ⟨by rfl, ?_⟩) hHeld ?_
                        rotate_left 1
                        focus (intro w hSw; (try dsimp only at hSw); go_simp; (try with_reducible rfl))
                        (repeat (first | simp only [Act.put] | simp only [List.setIfInBounds_toArray] | simp only [List.set_cons_zero] | simp only [List.set_cons_succ]))
                        refine takeD (i := 8) (d := some 84) (v := ?_) rfl rfl (by kernel_rfl) (by kernel_rfl) (by kernel_rfl) (fun _ _ _ h => h) (Or.inl ⟨by rfl, ?_⟩) hHeld ?_
                        rotate_left 1
                        focus (intro w hSw; (try dsimp only at hSw); go_simp; (try with_reducible rfl))
                        (repeat (first | simp only [Act.put] | simp only [List.setIfInBounds_toArray] | simp only [List.set_cons_zero] | simp only [List.set_cons_succ]))
                        refine takeD (i := 9) (d := some 85) (v := ?_) rfl rfl (by kernel_rfl) (by kernel_rfl) (by kernel_rfl) (fun _ _ _ h => h) (Or.inl ⟨by rfl, ?_⟩) hHeld ?_
                        rotate_left 1
                        focus (intro w hSw; (try dsimp only at hSw); go_simp; (try with_reducible rfl))
                        (repeat (first | simp only [Act.put] | simp only [List.setIfInBounds_toArray] | simp only [List.set_cons_zero] | simp only [List.set_cons_succ]))
                        clear hHeld
                        exact key210 w114 b10 b11 A4 n4 c4 A8 n9 c8 sA sc pA pc ⟨HB9, HLq, HX10, h10, HDq⟩
                      · skip
                        refine wpOp_al (d := some 17) (obj := .cells #[.slice none 0 0, .slice none 0 0, .int .i64 0, .bool false] 25) rfl rfl (run_alD _ rfl) ?_
                        obtain ⟨b11, hbn⟩ : ∃ b, b = wz110.heap.size := ⟨_, rfl⟩
                        rw [← hbn]
                        obtain ⟨w115, hwn⟩ : ∃ w', w' = wz110.alloc (.cells #[.slice none 0 0, .slice none 0 0, .int .i64 0, .bool false] 25) := ⟨_, rfl⟩
                        rw [← hwn]
                        have hb : Below wz110.heap.size wz110 w115 := by rw [hwn]; exact (Below.refl _ _).alloc (Nat.le_refl _) _
                        have HX11 := Lib.hid (show w115.heap[b11]? = some (.cells #[.slice none 0 0, .slice none 0 0, .int .i64 0, .bool false] 25 (0, 0)) by rw [hwn, hbn]; exact heap_alloc_new _ _)
                        have h11 : W13.heap.size ≤ b11 := by have := HB9.out.size; omega
                        have hne : b10 ≠ b11 := by have := lt_heap HX10.out; omega
                        replace HX10 := Lib.hid ((hb.block _ (lt_heap HX10.out)).trans HX10.out)
                        replace HLq := Lib.hid ((HLq.out.mono (M' := NB [b10, b11]) fun b hlt hM hin => by simp only [List.mem_cons, List.not_mem_nil, or_false] at hin; rcases hin with rfl | rfl <;> first | omega | exact hM (by simp)).below hb)
                        replace HB9 := Lib.hid (HB9.out.trans (hb.mono HB9.out.size))
                        clear hb hwn hbn
                        refine hK.out _ _ (HC.out _ HB9.out) (fun hHeld => ?_)
                        clear hK K hHeld
                        (repeat (first | simp only [Act.put] | simp only [List.setIfInBounds_toArray] | simp only [List.set_cons_zero] | simp only [List.set_cons_succ]))
                        exact key111 w115 b10 b11 A4 n4 c4 A8 n9 c8 sA sc pA pc ⟨HB9, HLq, HX10, h10, HX11, h11, hne⟩
                  case h2 =>
                    intro wz111 b10 b11 A4 n4 c4 A8 n9 c8 sA sc pA pc ⟨HB9, HLq, HX10, h10, HX11, h11, hne⟩
                    (try dsimp only)
                    refine wpAnyH_ready (rs := [5]) (by kernel_rfl) (by simp) ?_
                    refine AllReadyH.cons rfl (fun K hK => ?_) AllReadyH.nil
                    · skip
                      go_simp
                      go_at_call 21
                      have CO := syncW_any wz111 (NB [b10, b11]) (logOf X (addAll X [] ys)) _ HLq.out (fit_of_used (by have := (addAll_fit (fit_logOf HWX.out) ys); have := okB_sized HWX.out.ok; show used (recs X.sectors ++ addAll X [] ys) ≤ 4096; omega)) X _ ((HDk.out.below HB9.out).mono fun b _ hb hin => by simp only [List.mem_cons, List.not_mem_nil, or_false] at hin; omega)
                      rw [HS1.out] at CO
                      refine CO.mono ?_
                      rintro e w116 ⟨lv, dv, rfl, hl, hd, hb⟩
                      clear CO
                      obtain ⟨A8, n9, c8, rfl, hl⟩ := form_logOf hl
                      obtain ⟨sA, sc, pA, pc, rfl, -⟩ := hd.parts
                      replace HLq := Lib.hid (hl.mono (M' := NB [b10, b11]) fun q _ hq => NB.new (((InW.nil _).cons (lt_heap HX11.out)).cons (lt_heap HX10.out)) hq)
                      have HDq := Lib.hid (hd.mono (M' := NB [b10, b11]) fun q _ hq => NB.new (((InW.nil _).cons (lt_heap HX11.out)).cons (lt_heap HX10.out)) hq)
                      clear hl hd
                      replace HX10 := Lib.hid ((hb.block _ (lt_heap HX10.out)).trans HX10.out)
                      replace HX11 := Lib.hid ((hb.block _ (lt_heap HX11.out)).trans HX11.out)
                      replace HB9 := Lib.hid (HB9.out.trans (hb.mono HB9.out.size))
                      clear hb
                      refine hK.out _ _ (HC.out _ HB9.out) (fun hHeld => ?_)
                      clear hK K
                      (repeat (first | simp only [List.setIfInBounds_toArray] | simp only [List.set_cons_zero] | simp only [List.set_cons_succ]))
                      refine takeD (i := 6) (d := some 76) (v := ?_) rfl rfl (by kernel_rfl) (by kernel_rfl) (by kernel_rfl) (fun _ _ _ h => h) (Or.inl ⟨by rfl, ?_⟩) hHeld ?_
                      rotate_left 1
                      focus (intro w hSw; (try dsimp only at hSw); go_simp; (try with_reducible rfl))
                      (repeat (first | simp only [Act.put] | simp only [List.setIfInBounds_toArray] | simp only [List.set_cons_zero] | simp only [List.set_cons_succ]))
                      refine takeD (i := 7) (d := some 83) (v := ?_) rfl rfl (by kernel_rfl) (by kernel_rfl) (by kernel_rfl) (fun _ _ _ h => h) (Or.inl ⟨by rfl, ?_⟩) hHeld ?_
                      rotate_left 1
                      focus (intro w hSw; (try dsimp only at hSw); go_simp; (try with_reducible rfl))
                      (repeat (first | simp only [Act.put] | simp only [List.setIfInBounds_toArray] | simp only [List.set_cons_zero] | simp only [List.set_cons_succ]))
                      refine takeD (i := 8) (d := some 84) (v := ?_) rfl rfl (by kernel_rfl) (by kernel_rfl) (by kernel_rfl) (fun _ _ _ h => h) (Or.inl ⟨by rfl, ?_⟩) hHeld ?_
                      rotate_left 1
                      focus (intro w hSw; (try dsimp only at hSw); go_simp; (try with_reducible rfl))
                      (repeat (first | simp only [Act.put] | simp only [List.setIfInBounds_toArray] | simp only [List.set_cons_zero] | simp only [List.set_cons_succ]))
                      refine takeD (i := 9) (d := some 85) (v := ?_) rfl rfl (by kernel_rfl) (by kernel_rfl) (by kernel_rfl) (fun _ _ _ h => h) (Or.inl ⟨by rfl, ?_⟩) hHeld ?_
                      rotate_left 1
                      focus (intro w hSw; (try dsimp only at hSw); go_simp; (try with_reducible rfl))
                      (repeat (first | simp only [Act.put] | simp only [List.setIfInBounds_toArray] | simp only [List.set_cons_zero] | simp only [List.set_cons_succ]))
                      clear hHeld
                      exact key211 w116 b10 b11 A4 n4 c4 A8 n9 c8 sA sc pA pc ⟨HB9, HLq, HX10, h10, HX11, h11, hne, HDq⟩
                case h2 =>
                  intro wz200 b10 b11 A4 n4 c4 A8 n9 c8 sA sc pA pc ⟨HB9, HLq, HDq⟩
                  (try dsimp only)
                  refine wpAnyH_ready (rs := [10, 11]) (by kernel_rfl) (by simp) ?_
                  refine AllReadyH.cons rfl (fun K hK => ?_) (AllReadyH.cons rfl (fun K hK => ?_) AllReadyH.nil)
                  · skip
                    refine wpOp_al (d := some 16) (obj := .cells #[.int .i64 0, .slice none 0 0, .int .i64 0] 29) rfl rfl (run_alL _ rfl) ?_
                    obtain ⟨b10, hbn⟩ : ∃ b, b = wz200.heap.size := ⟨_, rfl⟩
                    rw [← hbn]
                    obtain ⟨w117, hwn⟩ : ∃ w', w' = wz200.alloc (.cells #[.int .i64 0, .slice none 0 0, .int .i64 0] 29) := ⟨_, rfl⟩
                    rw [← hwn]
                    have hb : Below wz200.heap.size wz200 w117 := by rw [hwn]; exact (Below.refl _ _).alloc (Nat.le_refl _) _
                    have HX10 := Lib.hid (show w117.heap[b10]? = some (.cells #[.int .i64 0, .slice none 0 0, .int .i64 0] 29 (0, 0)) by rw [hwn, hbn]; exact heap_alloc_new _ _)
                    have h10 : W13.heap.size ≤ b10 := by have := HB9.out.size; omega
                    replace HLq := Lib.hid ((HLq.out.mono (M' := NB [b10]) fun b hlt hM hin => by simp only [List.mem_cons, List.not_mem_nil, or_false] at hin; rcases hin with rfl <;> first | omega | exact hM (by simp)).below hb)
                    replace HDq := Lib.hid ((HDq.out.mono (M' := NB [b10]) fun b hlt hM hin => by simp only [List.mem_cons, List.not_mem_nil, or_false] at hin; rcases hin with rfl <;> first | omega | exact hM (by simp)).below hb)
                    replace HB9 := Lib.hid (HB9.out.trans (hb.mono HB9.out.size))
                    clear hb hwn hbn
                    refine hK.out _ _ (HC.out _ HB9.out) (fun hHeld => ?_)
                    clear hK K hHeld
                    (repeat (first | simp only [Act.put] | simp only [List.setIfInBounds_toArray] | simp only [List.set_cons_zero] | simp only [List.set_cons_succ]))
                    exact key210 w117 b10 b11 A4 n4 c4 A8 n9 c8 sA sc pA pc ⟨HB9, HLq, HX10, h10, HDq⟩
                  · skip
                    refine wpOp_al (d := some 17) (obj := .cells #[.slice none 0 0, .slice none 0 0, .int .i64 0, .bool false] 25) rfl rfl (run_alD _ rfl) ?_
                    obtain ⟨b11, hbn⟩ : ∃ b, b = wz200.heap.size := ⟨_, rfl⟩
                    rw [← hbn]
                    obtain ⟨w118, hwn⟩ : ∃ w', w' = wz200.alloc (.cells #[.slice none 0 0, .slice none 0 0, .int .i64 0, .bool false] 25) := ⟨_, rfl⟩
                    rw [← hwn]
                    have hb : Below wz200.heap.size wz200 w118 := by rw [hwn]; exact (Below.refl _ _).alloc (Nat.le_refl _) _
                    have HX11 := Lib.hid (show w118.heap[b11]? = some (.cells #[.slice none 0 0, .slice none 0 0, .int .i64 0, .bool false] 25 (0, 0)) by rw [hwn, hbn]; exact heap_alloc_new _ _)
                    have h11 : W13.heap.size ≤ b11 := by have := HB9.out.size; omega
                    replace HLq := Lib.hid ((HLq.out.mono (M' := NB [b11]) fun b hlt hM hin => by simp only [List.mem_cons, List.not_mem_nil, or_false] at hin; rcases hin with rfl <;> first | omega | exact hM (by simp)).below hb)
                    replace HDq := Lib.hid ((HDq.out.mono (M' := NB [b11]) fun b hlt hM hin => by simp only [List.mem_cons, List.not_mem_nil, or_false] at hin; rcases hin with rfl <;> first | omega | exact hM (by simp)).below hb)
                    replace HB9 := Lib.hid (HB9.out.trans (hb.mono HB9.out.size))
                    clear hb hwn hbn
                    refine hK.out _ _ (HC.out _ HB9.out) (fun hHeld => ?_)
                    clear hK K hHeld
                    (repeat (first | simp only [Act.put] | simp only [List.setIfInBounds_toArray] | simp only [List.set_cons_zero] | simp only [List.set_cons_succ]))
                    exact key201 w118 b10 b11 A4 n4 c4 A8 n9 c8 sA sc pA pc ⟨HB9, HLq, HX11, h11, HDq⟩
              case h2 =>
                intro wz201 b10 b11 A4 n4 c4 A8 n9 c8 sA sc pA pc ⟨HB9, HLq, HX11, h11, HDq⟩
                (try dsimp only)
                refine wpAnyH_ready (rs := [10]) (by kernel_rfl) (by simp) ?_
                refine AllReadyH.cons rfl (fun K hK => ?_) AllReadyH.nil
                · skip
                  refine wpOp_al (d := some 16) (obj := .cells #[.int .i64 0, .slice none 0 0, .int .i64 0] 29) rfl rfl (run_alL _ rfl) ?_
                  obtain ⟨b10, hbn⟩ : ∃ b, b = wz201.heap.size := ⟨_, rfl⟩
                  rw [← hbn]
                  obtain ⟨w119, hwn⟩ : ∃ w', w' = wz201.alloc (.cells #[.int .i64 0, .slice none 0 0, .int .i64 0] 29) := ⟨_, rfl⟩
                  rw [← hwn]
                  have hb : Below wz201.heap.size wz201 w119 := by rw [hwn]; exact (Below.refl _ _).alloc (Nat.le_refl _) _
                  have HX10 := Lib.hid (show w119.heap[b10]? = some (.cells #[.int .i64 0, .slice none 0 0, .int .i64 0] 29 (0, 0)) by rw [hwn, hbn]; exact heap_alloc_new _ _)
                  have h10 : W13.heap.size ≤ b10 := by have := HB9.out.size; omega
                  have hne : b10 ≠ b11 := by have := lt_heap HX11.out; omega
                  replace HX11 := Lib.hid ((hb.block _ (lt_heap HX11.out)).trans HX11.out)
                  replace HLq := Lib.hid ((HLq.out.mono (M' := NB [b10, b11]) fun b hlt hM hin => by simp only [List.mem_cons, List.not_mem_nil, or_false] at hin; rcases hin with rfl | rfl <;> first | omega | exact hM (by simp)).below hb)
                  replace HDq := Lib.hid ((HDq.out.mono (M' := NB [b10, b11]) fun b hlt hM hin => by simp only [List.mem_cons, List.not_mem_nil, or_false] at hin; rcases hin with rfl | rfl <;> first | omega | exact hM (by simp)).below hb)
                  replace HB9 := Lib.hid (HB9.out.trans (hb.mono HB9.out.size))
                  clear hb hwn hbn
                  refine hK.out _ _ (HC.out _ HB9.out) (fun hHeld => ?_)
                  clear hK K hHeld
                  (repeat (first | simp only [Act.put] | simp only [List.setIfInBounds_toArray] | simp only [List.set_cons_zero] | simp only [List.set_cons_succ]))
                  exact key211 w119 b10 b11 A4 n4 c4 A8 n9 c8 sA sc pA pc ⟨HB9, HLq, HX10, h10, HX11, h11, hne, HDq⟩
            case h2 =>
              intro wz210 b10 b11 A4 n4 c4 A8 n9 c8 sA sc pA pc ⟨HB9, HLq, HX10, h10, HDq⟩
              (try dsimp only)
              refine wpAnyH_ready (rs := [11]) (by kernel_rfl) (by simp) ?_
              refine AllReadyH.cons rfl (fun K hK => ?_) AllReadyH.nil
              · skip
                refine wpOp_al (d := some 17) (obj := .cells #[.slice none 0 0, .slice none 0 0, .int .i64 0, .bool false] 25) rfl rfl (run_alD _ rfl) ?_
                obtain ⟨b11, hbn⟩ : ∃ b, b = wz210.heap.size := ⟨_, rfl⟩
                rw [← hbn]
                obtain ⟨w120, hwn⟩ : ∃ w', w' = wz210.alloc (.cells #[.slice none 0 0, .slice none 0 0, .int .i64 0, .bool false] 25) := ⟨_, rfl⟩
                rw [← hwn]
                have hb : Below wz210.heap.size wz210 w120 := by rw [hwn]; exact (Below.refl _ _).alloc (Nat.le_refl _) _
                have HX11 := Lib.hid (show w120.heap[b11]? = some (.cells #[.slice none 0 0, .slice none 0 0, .int .i64 0, .bool false] 25 (0, 0)) by rw [hwn, hbn]; exact heap_alloc_new _ _)
                have h11 : W13.heap.size ≤ b11 := by have := HB9.out.size; omega
                have hne : b10 ≠ b11 := by have := lt_heap HX10.out; omega
                replace HX10 := Lib.hid ((hb.block _ (lt_heap HX10.out)).trans HX10.out)
                replace HLq := Lib.hid ((HLq.out.mono (M' := NB [b10, b11]) fun b hlt hM hin => by simp only [List.mem_cons, List.not_mem_nil, or_false] at hin; rcases hin with rfl | rfl <;> first | omega | exact hM (by simp)).below hb)
                replace HDq := Lib.hid ((HDq.out.mono (M' := NB [b10, b11]) fun b hlt hM hin => by simp only [List.mem_cons, List.not_mem_nil, or_false] at hin; rcases hin with rfl | rfl <;> first | omega | exact hM (by simp)).below hb)
                replace HB9 := Lib.hid (HB9.out.trans (hb.mono HB9.out.size))
                clear hb hwn hbn
                refine hK.out _ _ (HC.out _ HB9.out) (fun hHeld => ?_)
                clear hK K hHeld
                (repeat (first | simp only [Act.put] | simp only [List.setIfInBounds_toArray] | simp only [List.set_cons_zero] | simp only [List.set_cons_succ]))
                exact key211 w120 b10 b11 A4 n4 c4 A8 n9 c8 sA sc pA pc ⟨HB9, HLq, HX10, h10, HX11, h11, hne, HDq⟩
          case h2 =>
            intro wz211 b10 b11 A4 n4 c4 A8 n9 c8 sA sc pA pc ⟨HB9, HLq, HX10, h10, HX11, h11, hne, HDq⟩
            (try dsimp only)
            have HZ : Hid (ZS W13 b10 b11 Y A8 n9 c8 sA sc pA pc wz211) := Lib.hid ⟨HB9.out, HX10.out, HX11.out, HLq.out, HDq.out, h10, h11, hne⟩
            clear HLq HDq
            have hl10 := lt_heap HZ.out.z10
            have hl11 := lt_heap HZ.out.z11
            have g0 : wz211.cell? ⟨b10, 0, none⟩ = some (.int .i64 0) := cell_of (j := 0) HZ.out.z10 rfl
            have f0 : wz211.frozen? ⟨b10, 0, none⟩ = false := frz8 HZ.out.z10
            have g1 : wz211.cell? ⟨b10, 1, none⟩ = some (.slice none 0 0) := cell_of (j := 1) HZ.out.z10 rfl
            have f1 : wz211.frozen? ⟨b10, 1, none⟩ = false := frz8 HZ.out.z10
            have g2 : wz211.cell? ⟨b10, 2, none⟩ = some (.int .i64 0) := cell_of (j := 2) HZ.out.z10 rfl
            have f2 : wz211.frozen? ⟨b10, 2, none⟩ = false := frz8 HZ.out.z10
            have k0 : wz211.cell? ⟨b11, 0, none⟩ = some (.slice none 0 0) := cell_of (j := 0) HZ.out.z11 rfl
            have y0 : wz211.frozen? ⟨b11, 0, none⟩ = false := frz8 HZ.out.z11
            have k1 : wz211.cell? ⟨b11, 1, none⟩ = some (.slice none 0 0) := cell_of (j := 1) HZ.out.z11 rfl
            have y1 : wz211.frozen? ⟨b11, 1, none⟩ = false := frz8 HZ.out.z11
            have k2 : wz211.cell? ⟨b11, 2, none⟩ = some (.int .i64 0) := cell_of (j := 2) HZ.out.z11 rfl
            have y2 : wz211.frozen? ⟨b11, 2, none⟩ = false := frz8 HZ.out.z11
            have k3 : wz211.cell? ⟨b11, 3, none⟩ = some (.bool false) := cell_of (j := 3) HZ.out.z11 rfl
            have y3 : wz211.frozen? ⟨b11, 3, none⟩ = false := frz8 HZ.out.z11
            refine wpAnyH_ready (rs := [12]) (by kernel_rfl) (by simp) ?_
            refine AllReadyH.cons rfl (fun K hK => ?_) AllReadyH.nil
            go_simp
            refine hK.out _ _ (HC.out _ (by repeat (first | with_reducible exact HB9.out | refine Below.setCell ?_ h10 _))) (fun hHeld => ?_)
            clear hK K
            (repeat (first | simp only [Act.put] | simp only [List.setIfInBounds_toArray] | simp only [List.set_cons_zero] | simp only [List.set_cons_succ]))
            refine wpAnyH_ready (rs := [13]) (by kernel_rfl) (by simp) ?_
            refine AllReadyH.cons rfl (fun K hK => ?_) AllReadyH.nil
            go_simp
            refine hK.out _ _ (HC.out _ (by repeat (first | with_reducible exact HB9.out | refine Below.setCell ?_ h10 _ | refine Below.setCell ?_ h11 _))) (fun hHeld => ?_)
            clear hK K
            (repeat (first | simp only [Act.put] | simp only [List.setIfInBounds_toArray] | simp only [List.set_cons_zero] | simp only [List.set_cons_succ]))
            refine takeD (i := 14) (d := some 18) (v := ?_) rfl rfl (by kernel_rfl) (by kernel_rfl) (by kernel_rfl) (fun _ _ _ h => h) (Or.inl ⟨by rfl, ?_⟩) hHeld ?_
            rotate_left 1
            focus (intro w hSw; (try dsimp only at hSw); go_simp; (try with_reducible rfl))
            (repeat (first | simp only [Act.put] | simp only [List.setIfInBounds_toArray] | simp only [List.set_cons_zero] | simp only [List.set_cons_succ]))
            refine wpAnyH_done (by kernel_rfl) ?_ _
            go_wp2_with fail
            go_meet
            case rel => exact ⟨_, _, _, _, _, _, _, _, _, rfl, rfl, rfl, Lib.hid HZ.out.store⟩
        case rest =>
          obtain ⟨p16, q16, A16, m16, c16, sA16, sc16, pA16, pc16, rfl, rfl, rfl, HS⟩ := hcut
          go_upto_region 13 with fail
          refine nameC fun W16 hW => ?_
          have HZ16 := Lib.hid (show BS W13 p16 q16 Y A16 m16 c16 sA16 sc16 pA16 pc16 W16 by rw [hW.out]; exact HS.out)
          have hb := HZ16.out.below
          replace HB := Lib.hid (HB.out.trans (hb.mono HB.out.size))
          replace HZ10 := Lib.hid (HZ10.out.next hb)
          clear hW HS hb
          clear c0 c1 c2 c3 l0 l1 l2 hq5 hq8 HLq HDk HS1 HZ13
          obtain ⟨L, hL⟩ : ∃ L, L = logOf Y [] := ⟨_, rfl⟩
          have HSA := Lib.hid HST.out.same
          have HSO := Lib.hid HST.out.again
          have HOC := Lib.hid HST.out.openC
          have HOY := Lib.hid HST.out.openY
          rw [HSA.out, ← hL] at HOC
          rw [← hL] at HSO HOY
          have hfL : FitR L.recs := by
            have h := fit_logOf HST.out.wkY
            rw [hL]
            exact fit_of_used (by have := HST.out.wkY.len; show used (recs Y.sectors ++ []) ≤ 4096; omega)
          have hLL : L.recs.length ≤ 140737488355328 := by rw [hL]; have := HST.out.small; omega
          have HFL := Lib.hid hfL
          have HLL := Lib.hid hLL
          have HX10 := Lib.hid HZ10.out.b10
          have HX11 := Lib.hid HZ10.out.b11
          have HX16 := Lib.hid HZ16.out.b10
          have HX17 := Lib.hid HZ16.out.b11
          have HV10 := Lib.hid (HZ10.out.log.mono (M' := fun _ => True) fun _ _ _ => trivial)
          rw [HSA.out, ← hL] at HV10
          have HV11 := Lib.hid (HZ10.out.disk.mono (M' := fun _ => True) fun _ _ _ => trivial)
          have HV16 := Lib.hid (HZ16.out.log.mono (M' := fun _ => True) fun _ _ _ => trivial)
          rw [← hL] at HV16
          have HV17 := Lib.hid (HZ16.out.disk.mono (M' := fun _ => True) fun _ _ _ => trivial)
          clear HZ10 HZ16 HSA hL hfL hLL HST
          have hq10 := lt_heap HX10.out
          have c10_0 := cell_of (j := 0) HX10.out rfl
          have c10_1 := cell_of (j := 1) HX10.out rfl
          have c10_2 := cell_of (j := 2) HX10.out rfl
          have hq11 := lt_heap HX11.out
          have c11_0 := cell_of (j := 0) HX11.out rfl
          have c11_1 := cell_of (j := 1) HX11.out rfl
          have c11_2 := cell_of (j := 2) HX11.out rfl
          have c11_3 := cell_of (j := 3) HX11.out rfl
          have hq16 := lt_heap HX16.out
          have c16_0 := cell_of (j := 0) HX16.out rfl
          have c16_1 := cell_of (j := 1) HX16.out rfl
          have c16_2 := cell_of (j := 2) HX16.out rfl
          have hq17 := lt_heap HX17.out
          have c17_0 := cell_of (j := 0) HX17.out rfl
          have c17_1 := cell_of (j := 1) HX17.out rfl
          have c17_2 := cell_of (j := 2) HX17.out rfl
          have c17_3 := cell_of (j := 3) HX17.out rfl
          go_wp2_with fail
          clear c10_0 c10_1 c10_2 c11_0 c11_1 c11_2 c11_3 c16_0 c16_1 c16_2 c17_0 c17_1 c17_2 c17_3 hq10 hq11 hq16 hq17
          have CO := Lib.hid (syncW_any W16 (fun _ => True) L _ HV16.out HFL.out Y _ HV17.out)
          rw [HSO.out] at CO
          refine CO.out.mono ?_
          rintro e w17 ⟨lv, dv, rfl, hl, hd, hb⟩
          clear CO
          obtain ⟨rA19, rc19, rfl, hv⟩ := hl.form rfl rfl
          have HV19 := Lib.hid hv
          clear hl hv
          obtain ⟨sA20, sc20, pA20, pc20, rfl, -⟩ := hd.parts
          have HV20 := Lib.hid hd
          clear hd
          replace HV19 := Lib.hid (HV19.out.mono (M' := fun _ => True) fun _ _ _ => trivial)
          replace HV20 := Lib.hid (HV20.out.mono (M' := fun _ => True) fun _ _ _ => trivial)
          replace HX10 := Lib.hid ((hb.block _ (lt_heap HX10.out)).trans HX10.out)
          replace HX11 := Lib.hid ((hb.block _ (lt_heap HX11.out)).trans HX11.out)
          replace HX16 := Lib.hid ((hb.block _ (lt_heap HX16.out)).trans HX16.out)
          replace HX17 := Lib.hid ((hb.block _ (lt_heap HX17.out)).trans HX17.out)
          replace HV10 := Lib.hid (HV10.out.below hb)
          replace HV11 := Lib.hid (HV11.out.below hb)
          replace HV16 := Lib.hid (HV16.out.below hb)
          replace HV17 := Lib.hid (HV17.out.below hb)
          replace HB := Lib.hid (HB.out.trans (hb.mono HB.out.size))
          clear hb
          have hq10 := lt_heap HX10.out
          have c10_0 := cell_of (j := 0) HX10.out rfl
          have c10_1 := cell_of (j := 1) HX10.out rfl
          have c10_2 := cell_of (j := 2) HX10.out rfl
          have hq11 := lt_heap HX11.out
          have c11_0 := cell_of (j := 0) HX11.out rfl
          have c11_1 := cell_of (j := 1) HX11.out rfl
          have c11_2 := cell_of (j := 2) HX11.out rfl
          have c11_3 := cell_of (j := 3) HX11.out rfl
          have hq16 := lt_heap HX16.out
          have c16_0 := cell_of (j := 0) HX16.out rfl
          have c16_1 := cell_of (j := 1) HX16.out rfl
          have c16_2 := cell_of (j := 2) HX16.out rfl
          have hq17 := lt_heap HX17.out
          have c17_0 := cell_of (j := 0) HX17.out rfl
          have c17_1 := cell_of (j := 1) HX17.out rfl
          have c17_2 := cell_of (j := 2) HX17.out rfl
          have c17_3 := cell_of (j := 3) HX17.out rfl
          go_upto_region 14 with fail
          clear c10_0 c10_1 c10_2 c11_0 c11_1 c11_2 c11_3 c16_0 c16_1 c16_2 c17_0 c17_1 c17_2 c17_3 hq10 hq11 hq16 hq17
          refine nameC fun W18 hW => ?_
          have hB9 : Below w17.heap.size w17 W18 := by rw [hW.out]; repeat (first | with_reducible exact Below.refl _ _ | with_reducible refine Below.drew ?_ | refine Below.alloc ?_ (by simp) _)
          have HX19 := Lib.hid (show W18.heap[w17.heap.size]? = some (.cells #[.int .i64 L.many, .slice rA19 L.recs.length rc19, .int .i64 L.synced] 29 (0, 0)) by rw [hW.out]; (repeat (first | simp only [heap_drew] | simp only [heap_alloc_if] | simp only [World.size_alloc])); repeat (first | rw [if_pos trivial] | rw [if_pos (by omega)] | rw [if_neg (by omega)]))
          have HX20 := Lib.hid (show W18.heap[w17.heap.size + 1]? = some (.cells #[.slice sA20 Y.sectors.length sc20, .slice pA20 Y.pending.length pc20, .int .i64 Y.left, .bool Y.stopped] 25 (0, 0)) by rw [hW.out]; (repeat (first | simp only [heap_drew] | simp only [heap_alloc_if] | simp only [World.size_alloc])); repeat (first | rw [if_pos trivial] | rw [if_pos (by omega)] | rw [if_neg (by omega)]))
          replace HX10 := Lib.hid ((hB9.block _ (lt_heap HX10.out)).trans HX10.out)
          replace HX11 := Lib.hid ((hB9.block _ (lt_heap HX11.out)).trans HX11.out)
          replace HX16 := Lib.hid ((hB9.block _ (lt_heap HX16.out)).trans HX16.out)
          replace HX17 := Lib.hid ((hB9.block _ (lt_heap HX17.out)).trans HX17.out)
          replace HV10 := Lib.hid (HV10.out.below hB9)
          replace HV11 := Lib.hid (HV11.out.below hB9)
          replace HV16 := Lib.hid (HV16.out.below hB9)
          replace HV17 := Lib.hid (HV17.out.below hB9)
          replace HV19 := Lib.hid (HV19.out.below hB9)
          replace HV20 := Lib.hid (HV20.out.below hB9)
          replace HB := Lib.hid (HB.out.trans (hB9.mono HB.out.size))
          clear hW hB9
          have hq10 := lt_heap HX10.out
          have c10_0 := cell_of (j := 0) HX10.out rfl
          have c10_1 := cell_of (j := 1) HX10.out rfl
          have c10_2 := cell_of (j := 2) HX10.out rfl
          have hq11 := lt_heap HX11.out
          have c11_0 := cell_of (j := 0) HX11.out rfl
          have c11_1 := cell_of (j := 1) HX11.out rfl
          have c11_2 := cell_of (j := 2) HX11.out rfl
          have c11_3 := cell_of (j := 3) HX11.out rfl
          have hq16 := lt_heap HX16.out
          have c16_0 := cell_of (j := 0) HX16.out rfl
          have c16_1 := cell_of (j := 1) HX16.out rfl
          have c16_2 := cell_of (j := 2) HX16.out rfl
          have hq17 := lt_heap HX17.out
          have c17_0 := cell_of (j := 0) HX17.out rfl
          have c17_1 := cell_of (j := 1) HX17.out rfl
          have c17_2 := cell_of (j := 2) HX17.out rfl
          have c17_3 := cell_of (j := 3) HX17.out rfl
          have hq19 := lt_heap HX19.out
          have c19_0 := cell_of (j := 0) HX19.out rfl
          have c19_1 := cell_of (j := 1) HX19.out rfl
          have c19_2 := cell_of (j := 2) HX19.out rfl
          have hq20 := lt_heap HX20.out
          have c20_0 := cell_of (j := 0) HX20.out rfl
          have c20_1 := cell_of (j := 1) HX20.out rfl
          have c20_2 := cell_of (j := 2) HX20.out rfl
          have c20_3 := cell_of (j := 3) HX20.out rfl
          go_wp2_with fail
          clear c10_0 c10_1 c10_2 c11_0 c11_1 c11_2 c11_3 c16_0 c16_1 c16_2 c17_0 c17_1 c17_2 c17_3 c19_0 c19_1 c19_2 c20_0 c20_1 c20_2 c20_3 hq10 hq11 hq16 hq17 hq19 hq20
          have CO := Lib.hid (open_any W18 _ C _ HV11.out)
          rw [HOC.out] at CO
          refine CO.out.mono ?_
          rintro e w19 ⟨v, rfl, hl, hb⟩
          clear CO
          obtain ⟨rA22, rc22, rfl, hv⟩ := hl.form rfl rfl
          have HV22 := Lib.hid (hv.mono (M' := (fun _ => True)) fun _ _ _ => trivial)
          clear hl hv
          replace HX10 := Lib.hid ((hb.block _ (lt_heap HX10.out)).trans HX10.out)
          replace HX11 := Lib.hid ((hb.block _ (lt_heap HX11.out)).trans HX11.out)
          replace HX16 := Lib.hid ((hb.block _ (lt_heap HX16.out)).trans HX16.out)
          replace HX17 := Lib.hid ((hb.block _ (lt_heap HX17.out)).trans HX17.out)
          replace HX19 := Lib.hid ((hb.block _ (lt_heap HX19.out)).trans HX19.out)
          replace HX20 := Lib.hid ((hb.block _ (lt_heap HX20.out)).trans HX20.out)
          replace HV10 := Lib.hid (HV10.out.below hb)
          replace HV11 := Lib.hid (HV11.out.below hb)
          replace HV16 := Lib.hid (HV16.out.below hb)
          replace HV17 := Lib.hid (HV17.out.below hb)
          replace HV19 := Lib.hid (HV19.out.below hb)
          replace HV20 := Lib.hid (HV20.out.below hb)
          replace HB := Lib.hid (HB.out.trans (hb.mono HB.out.size))
          clear hb
          have hq10 := lt_heap HX10.out
          have c10_0 := cell_of (j := 0) HX10.out rfl
          have c10_1 := cell_of (j := 1) HX10.out rfl
          have c10_2 := cell_of (j := 2) HX10.out rfl
          have hq11 := lt_heap HX11.out
          have c11_0 := cell_of (j := 0) HX11.out rfl
          have c11_1 := cell_of (j := 1) HX11.out rfl
          have c11_2 := cell_of (j := 2) HX11.out rfl
          have c11_3 := cell_of (j := 3) HX11.out rfl
          have hq16 := lt_heap HX16.out
          have c16_0 := cell_of (j := 0) HX16.out rfl
          have c16_1 := cell_of (j := 1) HX16.out rfl
          have c16_2 := cell_of (j := 2) HX16.out rfl
          have hq17 := lt_heap HX17.out
          have c17_0 := cell_of (j := 0) HX17.out rfl
          have c17_1 := cell_of (j := 1) HX17.out rfl
          have c17_2 := cell_of (j := 2) HX17.out rfl
          have c17_3 := cell_of (j := 3) HX17.out rfl
          have hq19 := lt_heap HX19.out
          have c19_0 := cell_of (j := 0) HX19.out rfl
          have c19_1 := cell_of (j := 1) HX19.out rfl
          have c19_2 := cell_of (j := 2) HX19.out rfl
          have hq20 := lt_heap HX20.out
          have c20_0 := cell_of (j := 0) HX20.out rfl
          have c20_1 := cell_of (j := 1) HX20.out rfl
          have c20_2 := cell_of (j := 2) HX20.out rfl
          have c20_3 := cell_of (j := 3) HX20.out rfl
          go_upto_region 15 with fail
          clear c10_0 c10_1 c10_2 c11_0 c11_1 c11_2 c11_3 c16_0 c16_1 c16_2 c17_0 c17_1 c17_2 c17_3 c19_0 c19_1 c19_2 c20_0 c20_1 c20_2 c20_3 hq10 hq11 hq16 hq17 hq19 hq20
          refine nameC fun W20 hW => ?_
          have hB9 : Below w19.heap.size w19 W20 := by rw [hW.out]; repeat (first | with_reducible exact Below.refl _ _ | with_reducible refine Below.drew ?_ | refine Below.alloc ?_ (by simp) _)
          have HX22 := Lib.hid (show W20.heap[w19.heap.size]? = some (.cells #[.int .i64 L.many, .slice rA22 L.recs.length rc22, .int .i64 L.synced] 29 (0, 0)) by rw [hW.out]; (repeat (first | simp only [heap_drew] | simp only [heap_alloc_if] | simp only [World.size_alloc])); repeat (first | rw [if_pos trivial] | rw [if_pos (by omega)] | rw [if_neg (by omega)]))
          replace HX10 := Lib.hid ((hB9.block _ (lt_heap HX10.out)).trans HX10.out)
          replace HX11 := Lib.hid ((hB9.block _ (lt_heap HX11.out)).trans HX11.out)
          replace HX16 := Lib.hid ((hB9.block _ (lt_heap HX16.out)).trans HX16.out)
          replace HX17 := Lib.hid ((hB9.block _ (lt_heap HX17.out)).trans HX17.out)
          replace HX19 := Lib.hid ((hB9.block _ (lt_heap HX19.out)).trans HX19.out)
          replace HX20 := Lib.hid ((hB9.block _ (lt_heap HX20.out)).trans HX20.out)
          replace HV10 := Lib.hid (HV10.out.below hB9)
          replace HV11 := Lib.hid (HV11.out.below hB9)
          replace HV16 := Lib.hid (HV16.out.below hB9)
          replace HV17 := Lib.hid (HV17.out.below hB9)
          replace HV19 := Lib.hid (HV19.out.below hB9)
          replace HV20 := Lib.hid (HV20.out.below hB9)
          replace HV22 := Lib.hid (HV22.out.below hB9)
          replace HB := Lib.hid (HB.out.trans (hB9.mono HB.out.size))
          clear hW hB9
          have hq10 := lt_heap HX10.out
          have c10_0 := cell_of (j := 0) HX10.out rfl
          have c10_1 := cell_of (j := 1) HX10.out rfl
          have c10_2 := cell_of (j := 2) HX10.out rfl
          have hq11 := lt_heap HX11.out
          have c11_0 := cell_of (j := 0) HX11.out rfl
          have c11_1 := cell_of (j := 1) HX11.out rfl
          have c11_2 := cell_of (j := 2) HX11.out rfl
          have c11_3 := cell_of (j := 3) HX11.out rfl
          have hq16 := lt_heap HX16.out
          have c16_0 := cell_of (j := 0) HX16.out rfl
          have c16_1 := cell_of (j := 1) HX16.out rfl
          have c16_2 := cell_of (j := 2) HX16.out rfl
          have hq17 := lt_heap HX17.out
          have c17_0 := cell_of (j := 0) HX17.out rfl
          have c17_1 := cell_of (j := 1) HX17.out rfl
          have c17_2 := cell_of (j := 2) HX17.out rfl
          have c17_3 := cell_of (j := 3) HX17.out rfl
          have hq19 := lt_heap HX19.out
          have c19_0 := cell_of (j := 0) HX19.out rfl
          have c19_1 := cell_of (j := 1) HX19.out rfl
          have c19_2 := cell_of (j := 2) HX19.out rfl
          have hq20 := lt_heap HX20.out
          have c20_0 := cell_of (j := 0) HX20.out rfl
          have c20_1 := cell_of (j := 1) HX20.out rfl
          have c20_2 := cell_of (j := 2) HX20.out rfl
          have c20_3 := cell_of (j := 3) HX20.out rfl
          have hq22 := lt_heap HX22.out
          have c22_0 := cell_of (j := 0) HX22.out rfl
          have c22_1 := cell_of (j := 1) HX22.out rfl
          have c22_2 := cell_of (j := 2) HX22.out rfl
          go_wp2_with fail
          clear c10_0 c10_1 c10_2 c11_0 c11_1 c11_2 c11_3 c16_0 c16_1 c16_2 c17_0 c17_1 c17_2 c17_3 c19_0 c19_1 c19_2 c20_0 c20_1 c20_2 c20_3 c22_0 c22_1 c22_2 hq10 hq11 hq16 hq17 hq19 hq20 hq22
          have CO := Lib.hid (open_any W20 _ Y _ HV20.out)
          rw [HOY.out] at CO
          refine CO.out.mono ?_
          rintro e w21 ⟨v, rfl, hl, hb⟩
          clear CO
          obtain ⟨rA24, rc24, rfl, hv⟩ := hl.form rfl rfl
          have HV24 := Lib.hid (hv.mono (M' := (fun _ => True)) fun _ _ _ => trivial)
          clear hl hv
          replace HX10 := Lib.hid ((hb.block _ (lt_heap HX10.out)).trans HX10.out)
          replace HX11 := Lib.hid ((hb.block _ (lt_heap HX11.out)).trans HX11.out)
          replace HX16 := Lib.hid ((hb.block _ (lt_heap HX16.out)).trans HX16.out)
          replace HX17 := Lib.hid ((hb.block _ (lt_heap HX17.out)).trans HX17.out)
          replace HX19 := Lib.hid ((hb.block _ (lt_heap HX19.out)).trans HX19.out)
          replace HX20 := Lib.hid ((hb.block _ (lt_heap HX20.out)).trans HX20.out)
          replace HX22 := Lib.hid ((hb.block _ (lt_heap HX22.out)).trans HX22.out)
          replace HV10 := Lib.hid (HV10.out.below hb)
          replace HV11 := Lib.hid (HV11.out.below hb)
          replace HV16 := Lib.hid (HV16.out.below hb)
          replace HV17 := Lib.hid (HV17.out.below hb)
          replace HV19 := Lib.hid (HV19.out.below hb)
          replace HV20 := Lib.hid (HV20.out.below hb)
          replace HV22 := Lib.hid (HV22.out.below hb)
          replace HB := Lib.hid (HB.out.trans (hb.mono HB.out.size))
          clear hb
          have hq10 := lt_heap HX10.out
          have c10_0 := cell_of (j := 0) HX10.out rfl
          have c10_1 := cell_of (j := 1) HX10.out rfl
          have c10_2 := cell_of (j := 2) HX10.out rfl
          have hq11 := lt_heap HX11.out
          have c11_0 := cell_of (j := 0) HX11.out rfl
          have c11_1 := cell_of (j := 1) HX11.out rfl
          have c11_2 := cell_of (j := 2) HX11.out rfl
          have c11_3 := cell_of (j := 3) HX11.out rfl
          have hq16 := lt_heap HX16.out
          have c16_0 := cell_of (j := 0) HX16.out rfl
          have c16_1 := cell_of (j := 1) HX16.out rfl
          have c16_2 := cell_of (j := 2) HX16.out rfl
          have hq17 := lt_heap HX17.out
          have c17_0 := cell_of (j := 0) HX17.out rfl
          have c17_1 := cell_of (j := 1) HX17.out rfl
          have c17_2 := cell_of (j := 2) HX17.out rfl
          have c17_3 := cell_of (j := 3) HX17.out rfl
          have hq19 := lt_heap HX19.out
          have c19_0 := cell_of (j := 0) HX19.out rfl
          have c19_1 := cell_of (j := 1) HX19.out rfl
          have c19_2 := cell_of (j := 2) HX19.out rfl
          have hq20 := lt_heap HX20.out
          have c20_0 := cell_of (j := 0) HX20.out rfl
          have c20_1 := cell_of (j := 1) HX20.out rfl
          have c20_2 := cell_of (j := 2) HX20.out rfl
          have c20_3 := cell_of (j := 3) HX20.out rfl
          have hq22 := lt_heap HX22.out
          have c22_0 := cell_of (j := 0) HX22.out rfl
          have c22_1 := cell_of (j := 1) HX22.out rfl
          have c22_2 := cell_of (j := 2) HX22.out rfl
          go_upto_region 16 with fail
          clear c10_0 c10_1 c10_2 c11_0 c11_1 c11_2 c11_3 c16_0 c16_1 c16_2 c17_0 c17_1 c17_2 c17_3 c19_0 c19_1 c19_2 c20_0 c20_1 c20_2 c20_3 c22_0 c22_1 c22_2 hq10 hq11 hq16 hq17 hq19 hq20 hq22
          refine nameC fun W22 hW => ?_
          have hB9 : Below w21.heap.size w21 W22 := by rw [hW.out]; repeat (first | with_reducible exact Below.refl _ _ | with_reducible refine Below.drew ?_ | refine Below.alloc ?_ (by simp) _)
          have HX24 := Lib.hid (show W22.heap[w21.heap.size]? = some (.cells #[.int .i64 L.many, .slice rA24 L.recs.length rc24, .int .i64 L.synced] 29 (0, 0)) by rw [hW.out]; (repeat (first | simp only [heap_drew] | simp only [heap_alloc_if] | simp only [World.size_alloc])); repeat (first | rw [if_pos trivial] | rw [if_pos (by omega)] | rw [if_neg (by omega)]))
          replace HX10 := Lib.hid ((hB9.block _ (lt_heap HX10.out)).trans HX10.out)
          replace HX11 := Lib.hid ((hB9.block _ (lt_heap HX11.out)).trans HX11.out)
          replace HX16 := Lib.hid ((hB9.block _ (lt_heap HX16.out)).trans HX16.out)
          replace HX17 := Lib.hid ((hB9.block _ (lt_heap HX17.out)).trans HX17.out)
          replace HX19 := Lib.hid ((hB9.block _ (lt_heap HX19.out)).trans HX19.out)
          replace HX20 := Lib.hid ((hB9.block _ (lt_heap HX20.out)).trans HX20.out)
          replace HX22 := Lib.hid ((hB9.block _ (lt_heap HX22.out)).trans HX22.out)
          replace HV10 := Lib.hid (HV10.out.below hB9)
          replace HV11 := Lib.hid (HV11.out.below hB9)
          replace HV16 := Lib.hid (HV16.out.below hB9)
          replace HV17 := Lib.hid (HV17.out.below hB9)
          replace HV19 := Lib.hid (HV19.out.below hB9)
          replace HV20 := Lib.hid (HV20.out.below hB9)
          replace HV22 := Lib.hid (HV22.out.below hB9)
          replace HV24 := Lib.hid (HV24.out.below hB9)
          replace HB := Lib.hid (HB.out.trans (hB9.mono HB.out.size))
          clear hW hB9
          have hq10 := lt_heap HX10.out
          have c10_0 := cell_of (j := 0) HX10.out rfl
          have c10_1 := cell_of (j := 1) HX10.out rfl
          have c10_2 := cell_of (j := 2) HX10.out rfl
          have hq11 := lt_heap HX11.out
          have c11_0 := cell_of (j := 0) HX11.out rfl
          have c11_1 := cell_of (j := 1) HX11.out rfl
          have c11_2 := cell_of (j := 2) HX11.out rfl
          have c11_3 := cell_of (j := 3) HX11.out rfl
          have hq16 := lt_heap HX16.out
          have c16_0 := cell_of (j := 0) HX16.out rfl
          have c16_1 := cell_of (j := 1) HX16.out rfl
          have c16_2 := cell_of (j := 2) HX16.out rfl
          have hq17 := lt_heap HX17.out
          have c17_0 := cell_of (j := 0) HX17.out rfl
          have c17_1 := cell_of (j := 1) HX17.out rfl
          have c17_2 := cell_of (j := 2) HX17.out rfl
          have c17_3 := cell_of (j := 3) HX17.out rfl
          have hq19 := lt_heap HX19.out
          have c19_0 := cell_of (j := 0) HX19.out rfl
          have c19_1 := cell_of (j := 1) HX19.out rfl
          have c19_2 := cell_of (j := 2) HX19.out rfl
          have hq20 := lt_heap HX20.out
          have c20_0 := cell_of (j := 0) HX20.out rfl
          have c20_1 := cell_of (j := 1) HX20.out rfl
          have c20_2 := cell_of (j := 2) HX20.out rfl
          have c20_3 := cell_of (j := 3) HX20.out rfl
          have hq22 := lt_heap HX22.out
          have c22_0 := cell_of (j := 0) HX22.out rfl
          have c22_1 := cell_of (j := 1) HX22.out rfl
          have c22_2 := cell_of (j := 2) HX22.out rfl
          have hq24 := lt_heap HX24.out
          have c24_0 := cell_of (j := 0) HX24.out rfl
          have c24_1 := cell_of (j := 1) HX24.out rfl
          have c24_2 := cell_of (j := 2) HX24.out rfl
          go_wp2_with fail
          clear c10_0 c10_1 c10_2 c11_0 c11_1 c11_2 c11_3 c16_0 c16_1 c16_2 c17_0 c17_1 c17_2 c17_3 c19_0 c19_1 c19_2 c20_0 c20_1 c20_2 c20_3 c22_0 c22_1 c22_2 c24_0 c24_1 c24_2 hq10 hq11 hq16 hq17 hq19 hq20 hq22 hq24
          have CO := Lib.hid (lsame_any W22 _ _ L _ _ HLL.out HV10.out HV16.out)
          refine CO.out.mono ?_
          rintro e w23 ⟨rfl, hb⟩
          clear CO
          replace HX10 := Lib.hid ((hb.block _ (lt_heap HX10.out)).trans HX10.out)
          replace HX11 := Lib.hid ((hb.block _ (lt_heap HX11.out)).trans HX11.out)
          replace HX16 := Lib.hid ((hb.block _ (lt_heap HX16.out)).trans HX16.out)
          replace HX17 := Lib.hid ((hb.block _ (lt_heap HX17.out)).trans HX17.out)
          replace HX19 := Lib.hid ((hb.block _ (lt_heap HX19.out)).trans HX19.out)
          replace HX20 := Lib.hid ((hb.block _ (lt_heap HX20.out)).trans HX20.out)
          replace HX22 := Lib.hid ((hb.block _ (lt_heap HX22.out)).trans HX22.out)
          replace HX24 := Lib.hid ((hb.block _ (lt_heap HX24.out)).trans HX24.out)
          replace HV10 := Lib.hid (HV10.out.below hb)
          replace HV11 := Lib.hid (HV11.out.below hb)
          replace HV16 := Lib.hid (HV16.out.below hb)
          replace HV17 := Lib.hid (HV17.out.below hb)
          replace HV19 := Lib.hid (HV19.out.below hb)
          replace HV20 := Lib.hid (HV20.out.below hb)
          replace HV22 := Lib.hid (HV22.out.below hb)
          replace HV24 := Lib.hid (HV24.out.below hb)
          replace HB := Lib.hid (HB.out.trans (hb.mono HB.out.size))
          clear hb
          have hq10 := lt_heap HX10.out
          have c10_0 := cell_of (j := 0) HX10.out rfl
          have c10_1 := cell_of (j := 1) HX10.out rfl
          have c10_2 := cell_of (j := 2) HX10.out rfl
          have hq11 := lt_heap HX11.out
          have c11_0 := cell_of (j := 0) HX11.out rfl
          have c11_1 := cell_of (j := 1) HX11.out rfl
          have c11_2 := cell_of (j := 2) HX11.out rfl
          have c11_3 := cell_of (j := 3) HX11.out rfl
          have hq16 := lt_heap HX16.out
          have c16_0 := cell_of (j := 0) HX16.out rfl
          have c16_1 := cell_of (j := 1) HX16.out rfl
          have c16_2 := cell_of (j := 2) HX16.out rfl
          have hq17 := lt_heap HX17.out
          have c17_0 := cell_of (j := 0) HX17.out rfl
          have c17_1 := cell_of (j := 1) HX17.out rfl
          have c17_2 := cell_of (j := 2) HX17.out rfl
          have c17_3 := cell_of (j := 3) HX17.out rfl
          have hq19 := lt_heap HX19.out
          have c19_0 := cell_of (j := 0) HX19.out rfl
          have c19_1 := cell_of (j := 1) HX19.out rfl
          have c19_2 := cell_of (j := 2) HX19.out rfl
          have hq20 := lt_heap HX20.out
          have c20_0 := cell_of (j := 0) HX20.out rfl
          have c20_1 := cell_of (j := 1) HX20.out rfl
          have c20_2 := cell_of (j := 2) HX20.out rfl
          have c20_3 := cell_of (j := 3) HX20.out rfl
          have hq22 := lt_heap HX22.out
          have c22_0 := cell_of (j := 0) HX22.out rfl
          have c22_1 := cell_of (j := 1) HX22.out rfl
          have c22_2 := cell_of (j := 2) HX22.out rfl
          have hq24 := lt_heap HX24.out
          have c24_0 := cell_of (j := 0) HX24.out rfl
          have c24_1 := cell_of (j := 1) HX24.out rfl
          have c24_2 := cell_of (j := 2) HX24.out rfl
          go_wp2_with fail
          clear c10_0 c10_1 c10_2 c11_0 c11_1 c11_2 c11_3 c16_0 c16_1 c16_2 c17_0 c17_1 c17_2 c17_3 c19_0 c19_1 c19_2 c20_0 c20_1 c20_2 c20_3 c22_0 c22_1 c22_2 c24_0 c24_1 c24_2 hq10 hq11 hq16 hq17 hq19 hq20 hq22 hq24
          have CO := Lib.hid (lsame_any w23 _ _ L _ _ HLL.out HV19.out HV16.out)
          refine CO.out.mono ?_
          rintro e w24 ⟨rfl, hb⟩
          clear CO
          replace HX10 := Lib.hid ((hb.block _ (lt_heap HX10.out)).trans HX10.out)
          replace HX11 := Lib.hid ((hb.block _ (lt_heap HX11.out)).trans HX11.out)
          replace HX16 := Lib.hid ((hb.block _ (lt_heap HX16.out)).trans HX16.out)
          replace HX17 := Lib.hid ((hb.block _ (lt_heap HX17.out)).trans HX17.out)
          replace HX19 := Lib.hid ((hb.block _ (lt_heap HX19.out)).trans HX19.out)
          replace HX20 := Lib.hid ((hb.block _ (lt_heap HX20.out)).trans HX20.out)
          replace HX22 := Lib.hid ((hb.block _ (lt_heap HX22.out)).trans HX22.out)
          replace HX24 := Lib.hid ((hb.block _ (lt_heap HX24.out)).trans HX24.out)
          replace HV10 := Lib.hid (HV10.out.below hb)
          replace HV11 := Lib.hid (HV11.out.below hb)
          replace HV16 := Lib.hid (HV16.out.below hb)
          replace HV17 := Lib.hid (HV17.out.below hb)
          replace HV19 := Lib.hid (HV19.out.below hb)
          replace HV20 := Lib.hid (HV20.out.below hb)
          replace HV22 := Lib.hid (HV22.out.below hb)
          replace HV24 := Lib.hid (HV24.out.below hb)
          replace HB := Lib.hid (HB.out.trans (hb.mono HB.out.size))
          clear hb
          have hq10 := lt_heap HX10.out
          have c10_0 := cell_of (j := 0) HX10.out rfl
          have c10_1 := cell_of (j := 1) HX10.out rfl
          have c10_2 := cell_of (j := 2) HX10.out rfl
          have hq11 := lt_heap HX11.out
          have c11_0 := cell_of (j := 0) HX11.out rfl
          have c11_1 := cell_of (j := 1) HX11.out rfl
          have c11_2 := cell_of (j := 2) HX11.out rfl
          have c11_3 := cell_of (j := 3) HX11.out rfl
          have hq16 := lt_heap HX16.out
          have c16_0 := cell_of (j := 0) HX16.out rfl
          have c16_1 := cell_of (j := 1) HX16.out rfl
          have c16_2 := cell_of (j := 2) HX16.out rfl
          have hq17 := lt_heap HX17.out
          have c17_0 := cell_of (j := 0) HX17.out rfl
          have c17_1 := cell_of (j := 1) HX17.out rfl
          have c17_2 := cell_of (j := 2) HX17.out rfl
          have c17_3 := cell_of (j := 3) HX17.out rfl
          have hq19 := lt_heap HX19.out
          have c19_0 := cell_of (j := 0) HX19.out rfl
          have c19_1 := cell_of (j := 1) HX19.out rfl
          have c19_2 := cell_of (j := 2) HX19.out rfl
          have hq20 := lt_heap HX20.out
          have c20_0 := cell_of (j := 0) HX20.out rfl
          have c20_1 := cell_of (j := 1) HX20.out rfl
          have c20_2 := cell_of (j := 2) HX20.out rfl
          have c20_3 := cell_of (j := 3) HX20.out rfl
          have hq22 := lt_heap HX22.out
          have c22_0 := cell_of (j := 0) HX22.out rfl
          have c22_1 := cell_of (j := 1) HX22.out rfl
          have c22_2 := cell_of (j := 2) HX22.out rfl
          have hq24 := lt_heap HX24.out
          have c24_0 := cell_of (j := 0) HX24.out rfl
          have c24_1 := cell_of (j := 1) HX24.out rfl
          have c24_2 := cell_of (j := 2) HX24.out rfl
          go_wp2_with fail
          clear c10_0 c10_1 c10_2 c11_0 c11_1 c11_2 c11_3 c16_0 c16_1 c16_2 c17_0 c17_1 c17_2 c17_3 c19_0 c19_1 c19_2 c20_0 c20_1 c20_2 c20_3 c22_0 c22_1 c22_2 c24_0 c24_1 c24_2 hq10 hq11 hq16 hq17 hq19 hq20 hq22 hq24
          refine ((sameRecs_any w24 _ _ L.recs L.recs _ _ HLL.out HLL.out HV22.out.mat8 HV24.out.mat8).mono (R' := fun e w' => e = Ending.returned (.bool true) ∧ Below w24.heap.size w24 w') fun e w' ⟨he, m, hw⟩ => ⟨by rw [he, decide_eq_true rfl], by rw [hw]; exact belowN (Below.refl _ _) _⟩).mono ?_
          rintro e w25 ⟨rfl, hb⟩
          replace HX10 := Lib.hid ((hb.block _ (lt_heap HX10.out)).trans HX10.out)
          replace HX11 := Lib.hid ((hb.block _ (lt_heap HX11.out)).trans HX11.out)
          replace HX16 := Lib.hid ((hb.block _ (lt_heap HX16.out)).trans HX16.out)
          replace HX17 := Lib.hid ((hb.block _ (lt_heap HX17.out)).trans HX17.out)
          replace HX19 := Lib.hid ((hb.block _ (lt_heap HX19.out)).trans HX19.out)
          replace HX20 := Lib.hid ((hb.block _ (lt_heap HX20.out)).trans HX20.out)
          replace HX22 := Lib.hid ((hb.block _ (lt_heap HX22.out)).trans HX22.out)
          replace HX24 := Lib.hid ((hb.block _ (lt_heap HX24.out)).trans HX24.out)
          replace HV10 := Lib.hid (HV10.out.below hb)
          replace HV11 := Lib.hid (HV11.out.below hb)
          replace HV16 := Lib.hid (HV16.out.below hb)
          replace HV17 := Lib.hid (HV17.out.below hb)
          replace HV19 := Lib.hid (HV19.out.below hb)
          replace HV20 := Lib.hid (HV20.out.below hb)
          replace HV22 := Lib.hid (HV22.out.below hb)
          replace HV24 := Lib.hid (HV24.out.below hb)
          replace HB := Lib.hid (HB.out.trans (hb.mono HB.out.size))
          clear hb
          have hq10 := lt_heap HX10.out
          have c10_0 := cell_of (j := 0) HX10.out rfl
          have c10_1 := cell_of (j := 1) HX10.out rfl
          have c10_2 := cell_of (j := 2) HX10.out rfl
          have hq11 := lt_heap HX11.out
          have c11_0 := cell_of (j := 0) HX11.out rfl
          have c11_1 := cell_of (j := 1) HX11.out rfl
          have c11_2 := cell_of (j := 2) HX11.out rfl
          have c11_3 := cell_of (j := 3) HX11.out rfl
          have hq16 := lt_heap HX16.out
          have c16_0 := cell_of (j := 0) HX16.out rfl
          have c16_1 := cell_of (j := 1) HX16.out rfl
          have c16_2 := cell_of (j := 2) HX16.out rfl
          have hq17 := lt_heap HX17.out
          have c17_0 := cell_of (j := 0) HX17.out rfl
          have c17_1 := cell_of (j := 1) HX17.out rfl
          have c17_2 := cell_of (j := 2) HX17.out rfl
          have c17_3 := cell_of (j := 3) HX17.out rfl
          have hq19 := lt_heap HX19.out
          have c19_0 := cell_of (j := 0) HX19.out rfl
          have c19_1 := cell_of (j := 1) HX19.out rfl
          have c19_2 := cell_of (j := 2) HX19.out rfl
          have hq20 := lt_heap HX20.out
          have c20_0 := cell_of (j := 0) HX20.out rfl
          have c20_1 := cell_of (j := 1) HX20.out rfl
          have c20_2 := cell_of (j := 2) HX20.out rfl
          have c20_3 := cell_of (j := 3) HX20.out rfl
          have hq22 := lt_heap HX22.out
          have c22_0 := cell_of (j := 0) HX22.out rfl
          have c22_1 := cell_of (j := 1) HX22.out rfl
          have c22_2 := cell_of (j := 2) HX22.out rfl
          have hq24 := lt_heap HX24.out
          have c24_0 := cell_of (j := 0) HX24.out rfl
          have c24_1 := cell_of (j := 1) HX24.out rfl
          have c24_2 := cell_of (j := 2) HX24.out rfl
          go_wp2_with fail
          clear c10_0 c10_1 c10_2 c11_0 c11_1 c11_2 c11_3 c16_0 c16_1 c16_2 c17_0 c17_1 c17_2 c17_3 c19_0 c19_1 c19_2 c20_0 c20_1 c20_2 c20_3 c22_0 c22_1 c22_2 c24_0 c24_1 c24_2 hq10 hq11 hq16 hq17 hq19 hq20 hq22 hq24
          refine ((sameRecs_any w25 _ _ L.recs L.recs _ _ HLL.out HLL.out HV22.out.mat8 HV10.out.mat8).mono (R' := fun e w' => e = Ending.returned (.bool true) ∧ Below w25.heap.size w25 w') fun e w' ⟨he, m, hw⟩ => ⟨by rw [he, decide_eq_true rfl], by rw [hw]; exact belowN (Below.refl _ _) _⟩).mono ?_
          rintro e w26 ⟨rfl, hb⟩
          replace HX10 := Lib.hid ((hb.block _ (lt_heap HX10.out)).trans HX10.out)
          replace HX11 := Lib.hid ((hb.block _ (lt_heap HX11.out)).trans HX11.out)
          replace HX16 := Lib.hid ((hb.block _ (lt_heap HX16.out)).trans HX16.out)
          replace HX17 := Lib.hid ((hb.block _ (lt_heap HX17.out)).trans HX17.out)
          replace HX19 := Lib.hid ((hb.block _ (lt_heap HX19.out)).trans HX19.out)
          replace HX20 := Lib.hid ((hb.block _ (lt_heap HX20.out)).trans HX20.out)
          replace HX22 := Lib.hid ((hb.block _ (lt_heap HX22.out)).trans HX22.out)
          replace HX24 := Lib.hid ((hb.block _ (lt_heap HX24.out)).trans HX24.out)
          replace HV10 := Lib.hid (HV10.out.below hb)
          replace HV11 := Lib.hid (HV11.out.below hb)
          replace HV16 := Lib.hid (HV16.out.below hb)
          replace HV17 := Lib.hid (HV17.out.below hb)
          replace HV19 := Lib.hid (HV19.out.below hb)
          replace HV20 := Lib.hid (HV20.out.below hb)
          replace HV22 := Lib.hid (HV22.out.below hb)
          replace HV24 := Lib.hid (HV24.out.below hb)
          replace HB := Lib.hid (HB.out.trans (hb.mono HB.out.size))
          clear hb
          have hq10 := lt_heap HX10.out
          have c10_0 := cell_of (j := 0) HX10.out rfl
          have c10_1 := cell_of (j := 1) HX10.out rfl
          have c10_2 := cell_of (j := 2) HX10.out rfl
          have hq11 := lt_heap HX11.out
          have c11_0 := cell_of (j := 0) HX11.out rfl
          have c11_1 := cell_of (j := 1) HX11.out rfl
          have c11_2 := cell_of (j := 2) HX11.out rfl
          have c11_3 := cell_of (j := 3) HX11.out rfl
          have hq16 := lt_heap HX16.out
          have c16_0 := cell_of (j := 0) HX16.out rfl
          have c16_1 := cell_of (j := 1) HX16.out rfl
          have c16_2 := cell_of (j := 2) HX16.out rfl
          have hq17 := lt_heap HX17.out
          have c17_0 := cell_of (j := 0) HX17.out rfl
          have c17_1 := cell_of (j := 1) HX17.out rfl
          have c17_2 := cell_of (j := 2) HX17.out rfl
          have c17_3 := cell_of (j := 3) HX17.out rfl
          have hq19 := lt_heap HX19.out
          have c19_0 := cell_of (j := 0) HX19.out rfl
          have c19_1 := cell_of (j := 1) HX19.out rfl
          have c19_2 := cell_of (j := 2) HX19.out rfl
          have hq20 := lt_heap HX20.out
          have c20_0 := cell_of (j := 0) HX20.out rfl
          have c20_1 := cell_of (j := 1) HX20.out rfl
          have c20_2 := cell_of (j := 2) HX20.out rfl
          have c20_3 := cell_of (j := 3) HX20.out rfl
          have hq22 := lt_heap HX22.out
          have c22_0 := cell_of (j := 0) HX22.out rfl
          have c22_1 := cell_of (j := 1) HX22.out rfl
          have c22_2 := cell_of (j := 2) HX22.out rfl
          have hq24 := lt_heap HX24.out
          have c24_0 := cell_of (j := 0) HX24.out rfl
          have c24_1 := cell_of (j := 1) HX24.out rfl
          have c24_2 := cell_of (j := 2) HX24.out rfl
          go_wp2_with fail
          clear c10_0 c10_1 c10_2 c11_0 c11_1 c11_2 c11_3 c16_0 c16_1 c16_2 c17_0 c17_1 c17_2 c17_3 c19_0 c19_1 c19_2 c20_0 c20_1 c20_2 c20_3 c22_0 c22_1 c22_2 c24_0 c24_1 c24_2 hq10 hq11 hq16 hq17 hq19 hq20 hq22 hq24
          have CO := Lib.hid (same_any w26 _ _ Y _ _ HV17.out HV20.out)
          refine CO.out.mono ?_
          rintro e w27 ⟨rfl, hb⟩
          clear CO
          replace HX10 := Lib.hid ((hb.block _ (lt_heap HX10.out)).trans HX10.out)
          replace HX11 := Lib.hid ((hb.block _ (lt_heap HX11.out)).trans HX11.out)
          replace HX16 := Lib.hid ((hb.block _ (lt_heap HX16.out)).trans HX16.out)
          replace HX17 := Lib.hid ((hb.block _ (lt_heap HX17.out)).trans HX17.out)
          replace HX19 := Lib.hid ((hb.block _ (lt_heap HX19.out)).trans HX19.out)
          replace HX20 := Lib.hid ((hb.block _ (lt_heap HX20.out)).trans HX20.out)
          replace HX22 := Lib.hid ((hb.block _ (lt_heap HX22.out)).trans HX22.out)
          replace HX24 := Lib.hid ((hb.block _ (lt_heap HX24.out)).trans HX24.out)
          replace HV10 := Lib.hid (HV10.out.below hb)
          replace HV11 := Lib.hid (HV11.out.below hb)
          replace HV16 := Lib.hid (HV16.out.below hb)
          replace HV17 := Lib.hid (HV17.out.below hb)
          replace HV19 := Lib.hid (HV19.out.below hb)
          replace HV20 := Lib.hid (HV20.out.below hb)
          replace HV22 := Lib.hid (HV22.out.below hb)
          replace HV24 := Lib.hid (HV24.out.below hb)
          replace HB := Lib.hid (HB.out.trans (hb.mono HB.out.size))
          clear hb
          go_wp2_with fail
          go_ret
          exact ⟨rfl, HB.out⟩
end Go.Proofs.Ytocjhepiooljpaa
