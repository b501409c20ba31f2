/- revealFits. -/
import Derived.Test.YtgaanndidcdbpaaZG
import Derived.Deep.DeepCutAuto
import Derived.BigQuiet
namespace Go.Proofs.Ytgaanndidcdbpaa
open Go.RowKit Go.Shelf

/-- the commitment of a club, as it is found in the map -/
theorem com_look {w : World} {M : Nat → Prop} {b : BeaD} {bp bc : Nat} (h : BoardM w M b bp bc) {c : Int} (hc : W64 c) :
    (comAt b c = none ∧ ∀ W', Below w.heap.size w W' → (Instr.lookup 87 (.map (some bc)) (.int .i64 c) true).run Try.prog W' = .ok (.tuple #[.agg #[.int .i64 0, .slice none 0 0], .bool false]) W') ∨
    ∃ k uA uc, comAt b c = some k ∧ IsU64 w M (.slice uA k.checks.length uc) k.checks ∧ (∃ i, i < b.coms.length ∧ k = comN b.coms i) ∧ ∀ W', Below w.heap.size w W' → (Instr.lookup 87 (.map (some bc)) (.int .i64 c) true).run Try.prog W' = .ok (.tuple #[.agg #[.int .i64 k.club, .slice uA k.checks.length uc], .bool true]) W' := by
  obtain ⟨n, cnt, vs, h1, h2⟩ := h.coms
  have hl := fun (W' : World) (hb : Below w.heap.size w W') => (h1.below hb h1.lt).look_ok (Maps.int_keyed Try.underlying3) Try.underlying87 (Try.zeroCommit W') (Maps.keyOf_int_mk Try.underlying3 hc.wf)
  rcases comV_com vs b.coms c b.coms.length with ⟨e1, e2⟩ | ⟨i, hi, e1, e2⟩
  · rw [e1] at hl
    exact .inl ⟨e2, hl⟩
  · rw [e2] at hl
    have hu := h2 i hi
    obtain ⟨uA, uc, e, -⟩ := id hu
    refine .inr ⟨comN b.coms i, uA, uc, e1, by rw [← e]; exact hu, ⟨i, hi, rfl⟩, fun W' hb => ?_⟩
    rw [← e]
    exact hl W' hb
/-- the position of a club -/
theorem place_look {w : World} {M : Nat → Prop} {b : BeaD} {bp bc : Nat} (h : BoardM w M b bp bc) {c : Int} (hc : W64 c) : ∀ W', Below w.heap.size w W' → (Instr.lookup 86 (.map (some bp)) (.int .i64 c) false).run Try.prog W' = .ok (.int .i64 (((placeD b c).getD 0 : Nat) : Int)) W' := by
  intro W' hb
  obtain ⟨n, cnt, h1⟩ := h.place
  have hl := (h1.below hb h1.lt).look (Maps.int_keyed Try.underlying3) Try.underlying86 (Try.zeroI64 W') (Maps.keyOf_int_mk Try.underlying3 hc.wf)
  have e : (placeV b.clubs b.clubs.length c).getD (.int .i64 0) = .int .i64 (((placeD b c).getD 0 : Nat) : Int) := by
    unfold placeV placeD
    cases placeTo b.clubs b.clubs.length c <;> rfl
  rw [e] at hl
  exact hl
set_option maxRecDepth 20000 in
set_option maxHeartbeats 8000000 in
theorem revealFits_any (w : World) (M : Nat → Prop) (v : Value) (b : BeaD) (r : RevD) (h : IsBoard w M v b) (hc : W64 r.club) (hn : r.num < 18446744073709551616) : Calls Try.prog 34 #[v, .agg #[.int .i64 r.club, .int .u64 (r.num : Int)]] w fun e w' => e = .returned (.bool (revB b r)) ∧ Below w.heap.size w w' := by
  have HBD := Lib.hid h
  obtain ⟨cA, cc, kA, kc, rA, rc, oA, oc, bp, bc, rfl, i1, i2, i3, i4, i5⟩ := h.parts
  have HC64 := Lib.hid hc
  obtain ⟨z, hz⟩ : ∃ z, z = revB b r := ⟨_, rfl⟩
  have HZ := Lib.hid hz
  rw [← hz]
  have D1 := Lib.hid (fun (W : World) (hb : Below w.heap.size w W) => Lib.hid (member_any W M _ b (HBD.out.below hb) r.club HC64.out))
  have D2 := Lib.hid (fun (W : World) => Lib.hid (show Calls Try.prog 52 #[.int .u64 (4 : Nat), .int .u64 (r.num : Int)] W fun e w' => e = .returned (.int .u64 ((pw 4 r.num : Nat) : Int)) ∧ Below W.heap.size W w' from (Pow_any 4 r.num hn W).mono fun e w' ⟨h1, h2⟩ => ⟨h1, drn_below h2⟩))
  have HL := com_look i5 hc
  have hq0 : (0 : Int) ≤ (r.num : Int) := by omega
  clear h i1 i2 i3 i4 i5 hz hc hn
  obtain ⟨n, hn⟩ : ∃ n, n = b.clubs.length := ⟨_, rfl⟩
  obtain ⟨m, hm⟩ : ∃ n, n = b.coms.length := ⟨_, rfl⟩
  obtain ⟨nr, hnr⟩ : ∃ n, n = b.revs.length := ⟨_, rfl⟩
  obtain ⟨no, hno⟩ : ∃ n, n = b.opns.length := ⟨_, rfl⟩
  obtain ⟨thr, hthr⟩ : ∃ n, n = b.thr := ⟨_, rfl⟩
  obtain ⟨rng, hrng⟩ : ∃ n, n = b.rng := ⟨_, rfl⟩
  obtain ⟨dz, hdz⟩ : ∃ n, n = doneB b := ⟨_, rfl⟩
  rw [← hn, ← hm, ← hnr, ← hno, ← hthr, ← hrng, ← hdz] at D1 ⊢
  obtain ⟨mb, hmb⟩ : ∃ x, x = memB b r.club := ⟨_, rfl⟩
  rw [← hmb] at D1
  have HMB := Lib.hid hmb
  obtain ⟨pz, hpz⟩ : ∃ x, x = pw 4 r.num := ⟨_, rfl⟩
  rw [← hpz] at D2
  have HPZ := Lib.hid hpz
  obtain ⟨rx, hrx⟩ : ∃ x, x = r.club := ⟨_, rfl⟩
  obtain ⟨ry, hry⟩ : ∃ x, x = r.num := ⟨_, rfl⟩
  have HRX := Lib.hid hrx
  have HRY := Lib.hid hry
  rw [← hrx] at D1 HL ⊢
  rw [← hry] at D2 hq0 ⊢
  clear hn hm hnr hno hthr hrng hdz hmb hpz hrx hry
  go_enter Try.func34, Try.ntmps34
  go_upto_region 1 with fail
  refine nameC fun W1 hW1 => ?_
  have hb1 : Below w.heap.size w W1 := by rw [hW1.out]; exact ((Below.refl _ _).alloc (Nat.le_refl _) _).alloc (by simp) _
  have k0 : W1.heap[w.heap.size]? = some (.cells #[.slice cA n cc, .int .i64 thr, .int .u64 (rng : Int), .slice kA m kc, .slice rA nr rc, .slice oA no oc, .map (some bp), .map (some bc), .bool dz] 89 (0, 0)) := by rw [hW1.out]; simp only [heap_alloc_if, World.size_alloc]; rw [if_neg (by omega)]; rw [if_pos trivial]
  have k1 : W1.heap[w.heap.size + 1]? = some (.cells #[.int .i64 rx, .int .u64 (ry : Int)] 52 (0, 0)) := by rw [hW1.out]; simp only [heap_alloc_if, World.size_alloc]; rw [if_pos trivial]
  obtain ⟨B1, hB1⟩ : ∃ B, B = w.heap.size + 1 := ⟨_, rfl⟩
  rw [← hB1] at k1 ⊢
  have HC := Lib.hid (show ∀ W', Below W1.heap.size W1 W' → (W'.cell? ⟨w.heap.size, 0, none⟩ = some (.slice cA n cc) ∧ W'.cell? ⟨w.heap.size, 1, none⟩ = some (.int .i64 thr) ∧ W'.cell? ⟨w.heap.size, 2, none⟩ = some (.int .u64 (rng : Int)) ∧ W'.cell? ⟨w.heap.size, 3, none⟩ = some (.slice kA m kc) ∧ W'.cell? ⟨w.heap.size, 4, none⟩ = some (.slice rA nr rc) ∧ W'.cell? ⟨w.heap.size, 5, none⟩ = some (.slice oA no oc) ∧ W'.cell? ⟨w.heap.size, 6, none⟩ = some (.map (some bp)) ∧ W'.cell? ⟨w.heap.size, 7, none⟩ = some (.map (some bc)) ∧ W'.cell? ⟨w.heap.size, 8, none⟩ = some (.bool dz) ∧ W'.cell? ⟨B1, 0, none⟩ = some (.int .i64 rx) ∧ W'.cell? ⟨B1, 1, none⟩ = some (.int .u64 (ry : Int))) from fun W' h => by
    have e0 := (h.block _ (lt_heap k0)).trans k0
    have e1 := (h.block _ (lt_heap k1)).trans k1
    exact ⟨cell_of e0 rfl, cell_of e0 rfl, cell_of e0 rfl, cell_of e0 rfl, cell_of e0 rfl, cell_of e0 rfl, cell_of e0 rfl, cell_of e0 rfl, cell_of e0 rfl, cell_of e1 rfl, cell_of e1 rfl⟩)
  have HB1 := Lib.hid hb1
  clear hW1 hb1 k0 k1 hB1
  obtain ⟨c0_0, c0_1, c0_2, c0_3, c0_4, c0_5, c0_6, c0_7, c0_8, c1_0, c1_1⟩ := HC.out _ (Below.refl _ _)
  rcases HL with ⟨e1, hl⟩ | ⟨c, uA, uc, e1, hu, -, hl⟩
  · have HQ := Lib.hid (show false = z by rw [HZ.out]; unfold revB; rw [← HRX.out, e1])
    clear e1
    have hlk := hl W1 HB1.out
    go_upto_region 2 with fail
    refine nameC fun W2 hW2 => ?_
    have hb2 : Below W1.heap.size W1 W2 := by rw [hW2.out]; exact (Below.refl _ _).alloc (Nat.le_refl _) _
    have k2 : W2.heap[W1.heap.size]? = some (.cells #[.int .i64 0, .slice none 0 0] 64 (0, 0)) := by rw [hW2.out]; exact heap_alloc_new _ _
    obtain ⟨B2, hB2⟩ : ∃ B, B = W1.heap.size := ⟨_, rfl⟩
    rw [← hB2] at k2 ⊢
    have HBW := Lib.hid (HB1.out.trans (hb2.mono HB1.out.size))
    clear hl
    have HC2 := Lib.hid (show ∀ W', Below W2.heap.size W2 W' → (W'.cell? ⟨w.heap.size, 0, none⟩ = some (.slice cA n cc) ∧ W'.cell? ⟨w.heap.size, 1, none⟩ = some (.int .i64 thr) ∧ W'.cell? ⟨w.heap.size, 2, none⟩ = some (.int .u64 (rng : Int)) ∧ W'.cell? ⟨w.heap.size, 3, none⟩ = some (.slice kA m kc) ∧ W'.cell? ⟨w.heap.size, 4, none⟩ = some (.slice rA nr rc) ∧ W'.cell? ⟨w.heap.size, 5, none⟩ = some (.slice oA no oc) ∧ W'.cell? ⟨w.heap.size, 6, none⟩ = some (.map (some bp)) ∧ W'.cell? ⟨w.heap.size, 7, none⟩ = some (.map (some bc)) ∧ W'.cell? ⟨w.heap.size, 8, none⟩ = some (.bool dz) ∧ W'.cell? ⟨B1, 0, none⟩ = some (.int .i64 rx) ∧ W'.cell? ⟨B1, 1, none⟩ = some (.int .u64 (ry : Int)) ∧ W'.cell? ⟨B2, 0, none⟩ = some (.int .i64 0) ∧ W'.cell? ⟨B2, 1, none⟩ = some (.slice none 0 0)) from fun W' hh => by
      have e2 := (hh.block _ (lt_heap k2)).trans k2
      obtain ⟨c0_0, c0_1, c0_2, c0_3, c0_4, c0_5, c0_6, c0_7, c0_8, c1_0, c1_1⟩ := HC.out W' (hb2.trans (hh.mono hb2.size))
      exact ⟨c0_0, c0_1, c0_2, c0_3, c0_4, c0_5, c0_6, c0_7, c0_8, c1_0, c1_1, cell_of e2 rfl, cell_of e2 rfl⟩)
    clear hW2 hb2 k2 hB2 hlk c0_0 c0_1 c0_2 c0_3 c0_4 c0_5 c0_6 c0_7 c0_8 c1_0 c1_1
    refine wp_region_held_drew (S := fun W9 => Below W2.heap.size W2 W9) (by kernel_rfl) (Below.drew (Below.refl _ _)) (fun hHeld => ?_)
    change wpAnyH _ _ _ _ _ 29 #[false, false, false, false, false, false, false, false, false, false, false, false, false, false, false, false, false, false, false, false, false, false, false, false, false, false, false, false, false] _ W2.drew
    refine takeD (i := 0) (d := some 15) (v := ?_) rfl rfl (by kernel_rfl) (by kernel_rfl) (by kernel_rfl) (fun _ _ _ h => h) (Or.inl ⟨by rfl, ?_⟩) hHeld ?_
    rotate_left 1
    focus (intro w hSw; (try dsimp only at hSw); go_simp; (try with_reducible rfl))
    (repeat (first | simp only [Act.put] | simp only [List.setIfInBounds_toArray] | simp only [List.set_cons_zero] | simp only [List.set_cons_succ]))
    refine takeD (i := 1) (d := some 16) (v := ?_) rfl rfl (by kernel_rfl) (by kernel_rfl) (by kernel_rfl) (fun _ _ _ h => h) (Or.inl ⟨by rfl, ?_⟩) hHeld ?_
    rotate_left 1
    focus (intro w hSw; (try dsimp only at hSw); go_simp; (try with_reducible rfl))
    (repeat (first | simp only [Act.put] | simp only [List.setIfInBounds_toArray] | simp only [List.set_cons_zero] | simp only [List.set_cons_succ]))
    refine takeD (i := 2) (d := some 17) (v := undef) rfl rfl (by kernel_rfl) (by kernel_rfl) (by kernel_rfl) (fun _ _ _ h => h) (Or.inr ⟨by rfl, rfl⟩) hHeld ?_
    (repeat (first | simp only [Act.put] | simp only [List.setIfInBounds_toArray] | simp only [List.set_cons_zero] | simp only [List.set_cons_succ]))
    refine takeD (i := 3) (d := some 18) (v := undef) rfl rfl (by kernel_rfl) (by kernel_rfl) (by kernel_rfl) (fun _ _ _ h => h) (Or.inr ⟨by rfl, rfl⟩) hHeld ?_
    (repeat (first | simp only [Act.put] | simp only [List.setIfInBounds_toArray] | simp only [List.set_cons_zero] | simp only [List.set_cons_succ]))
    refine takeD (i := 4) (d := some 19) (v := undef) rfl rfl (by kernel_rfl) (by kernel_rfl) (by kernel_rfl) (fun _ _ _ h => h) (Or.inr ⟨by rfl, rfl⟩) hHeld ?_
    (repeat (first | simp only [Act.put] | simp only [List.setIfInBounds_toArray] | simp only [List.set_cons_zero] | simp only [List.set_cons_succ]))
    refine takeD (i := 5) (d := some 20) (v := undef) rfl rfl (by kernel_rfl) (by kernel_rfl) (by kernel_rfl) (fun _ _ _ h => h) (Or.inr ⟨by rfl, rfl⟩) hHeld ?_
    (repeat (first | simp only [Act.put] | simp only [List.setIfInBounds_toArray] | simp only [List.set_cons_zero] | simp only [List.set_cons_succ]))
    refine takeD (i := 6) (d := some 21) (v := ?_) rfl rfl (by kernel_rfl) (by kernel_rfl) (by kernel_rfl) (fun _ _ _ h => h) (Or.inl ⟨by rfl, ?_⟩) hHeld ?_
    rotate_left 1
    focus (intro w hSw; (try dsimp only at hSw); go_simp; (try with_reducible rfl))
    (repeat (first | simp only [Act.put] | simp only [List.setIfInBounds_toArray] | simp only [List.set_cons_zero] | simp only [List.set_cons_succ]))
    refine takeD (i := 7) (d := some 22) (v := ?_) rfl rfl (by kernel_rfl) (by kernel_rfl) (by kernel_rfl) (fun _ _ _ h => h) (Or.inl ⟨by rfl, ?_⟩) hHeld ?_
    rotate_left 1
    focus (intro w hSw; (try dsimp only at hSw); go_simp; (try with_reducible rfl))
    (repeat (first | simp only [Act.put] | simp only [List.setIfInBounds_toArray] | simp only [List.set_cons_zero] | simp only [List.set_cons_succ]))
    refine takeD (i := 8) (d := some 23) (v := undef) rfl rfl (by kernel_rfl) (by kernel_rfl) (by kernel_rfl) (fun _ _ _ h => h) (Or.inr ⟨by rfl, rfl⟩) hHeld ?_
    (repeat (first | simp only [Act.put] | simp only [List.setIfInBounds_toArray] | simp only [List.set_cons_zero] | simp only [List.set_cons_succ]))
    refine takeD (i := 9) (d := some 24) (v := undef) rfl rfl (by kernel_rfl) (by kernel_rfl) (by kernel_rfl) (fun _ _ _ h => h) (Or.inr ⟨by rfl, rfl⟩) hHeld ?_
    (repeat (first | simp only [Act.put] | simp only [List.setIfInBounds_toArray] | simp only [List.set_cons_zero] | simp only [List.set_cons_succ]))
    refine takeD (i := 10) (d := some 25) (v := undef) rfl rfl (by kernel_rfl) (by kernel_rfl) (by kernel_rfl) (fun _ _ _ h => h) (Or.inr ⟨by rfl, rfl⟩) hHeld ?_
    (repeat (first | simp only [Act.put] | simp only [List.setIfInBounds_toArray] | simp only [List.set_cons_zero] | simp only [List.set_cons_succ]))
    refine takeD (i := 11) (d := some 26) (v := ?_) rfl rfl (by kernel_rfl) (by kernel_rfl) (by kernel_rfl) (fun _ _ _ h => h) (Or.inl ⟨by rfl, ?_⟩) hHeld ?_
    rotate_left 1
    focus (intro w hSw; (try dsimp only at hSw); go_simp; (try with_reducible rfl))
    (repeat (first | simp only [Act.put] | simp only [List.setIfInBounds_toArray] | simp only [List.set_cons_zero] | simp only [List.set_cons_succ]))
    refine takeD (i := 12) (d := some 27) (v := ?_) rfl rfl (by kernel_rfl) (by kernel_rfl) (by kernel_rfl) (fun _ _ _ h => h) (Or.inl ⟨by rfl, ?_⟩) hHeld ?_
    rotate_left 1
    focus (intro w hSw; (try dsimp only at hSw); go_simp; (try with_reducible rfl))
    (repeat (first | simp only [Act.put] | simp only [List.setIfInBounds_toArray] | simp only [List.set_cons_zero] | simp only [List.set_cons_succ]))
    refine takeD (i := 13) (d := some 28) (v := undef) rfl rfl (by kernel_rfl) (by kernel_rfl) (by kernel_rfl) (fun _ _ _ h => h) (Or.inr ⟨by rfl, rfl⟩) hHeld ?_
    (repeat (first | simp only [Act.put] | simp only [List.setIfInBounds_toArray] | simp only [List.set_cons_zero] | simp only [List.set_cons_succ]))
    refine takeD (i := 14) (d := some 29) (v := undef) rfl rfl (by kernel_rfl) (by kernel_rfl) (by kernel_rfl) (fun _ _ _ h => h) (Or.inr ⟨by rfl, rfl⟩) hHeld ?_
    (repeat (first | simp only [Act.put] | simp only [List.setIfInBounds_toArray] | simp only [List.set_cons_zero] | simp only [List.set_cons_succ]))
    refine takeD (i := 15) (d := some 30) (v := undef) rfl rfl (by kernel_rfl) (by kernel_rfl) (by kernel_rfl) (fun _ _ _ h => h) (Or.inr ⟨by rfl, rfl⟩) hHeld ?_
    (repeat (first | simp only [Act.put] | simp only [List.setIfInBounds_toArray] | simp only [List.set_cons_zero] | simp only [List.set_cons_succ]))
    refine takeD (i := 16) (d := some 31) (v := undef) rfl rfl (by kernel_rfl) (by kernel_rfl) (by kernel_rfl) (fun _ _ _ h => h) (Or.inr ⟨by rfl, rfl⟩) hHeld ?_
    (repeat (first | simp only [Act.put] | simp only [List.setIfInBounds_toArray] | simp only [List.set_cons_zero] | simp only [List.set_cons_succ]))
    refine takeD (i := 17) (d := some 32) (v := ?_) rfl rfl (by kernel_rfl) (by kernel_rfl) (by kernel_rfl) (fun _ _ _ h => h) (Or.inl ⟨by rfl, ?_⟩) hHeld ?_
    rotate_left 1
    focus (intro w hSw; (try dsimp only at hSw); go_simp; (try with_reducible rfl))
    (repeat (first | simp only [Act.put] | simp only [List.setIfInBounds_toArray] | simp only [List.set_cons_zero] | simp only [List.set_cons_succ]))
    refine takeD (i := 18) (d := some 33) (v := ?_) rfl rfl (by kernel_rfl) (by kernel_rfl) (by kernel_rfl) (fun _ _ _ h => h) (Or.inl ⟨by rfl, ?_⟩) hHeld ?_
    rotate_left 1
    focus (intro w hSw; (try dsimp only at hSw); go_simp; (try with_reducible rfl))
    (repeat (first | simp only [Act.put] | simp only [List.setIfInBounds_toArray] | simp only [List.set_cons_zero] | simp only [List.set_cons_succ]))
    refine takeD (i := 19) (d := some 34) (v := undef) rfl rfl (by kernel_rfl) (by kernel_rfl) (by kernel_rfl) (fun _ _ _ h => h) (Or.inr ⟨by rfl, rfl⟩) hHeld ?_
    (repeat (first | simp only [Act.put] | simp only [List.setIfInBounds_toArray] | simp only [List.set_cons_zero] | simp only [List.set_cons_succ]))
    refine takeD (i := 20) (d := some 35) (v := undef) rfl rfl (by kernel_rfl) (by kernel_rfl) (by kernel_rfl) (fun _ _ _ h => h) (Or.inr ⟨by rfl, rfl⟩) hHeld ?_
    (repeat (first | simp only [Act.put] | simp only [List.setIfInBounds_toArray] | simp only [List.set_cons_zero] | simp only [List.set_cons_succ]))
    refine takeD (i := 21) (d := some 36) (v := undef) rfl rfl (by kernel_rfl) (by kernel_rfl) (by kernel_rfl) (fun _ _ _ h => h) (Or.inr ⟨by rfl, rfl⟩) hHeld ?_
    (repeat (first | simp only [Act.put] | simp only [List.setIfInBounds_toArray] | simp only [List.set_cons_zero] | simp only [List.set_cons_succ]))
    refine takeD (i := 22) (d := some 37) (v := undef) rfl rfl (by kernel_rfl) (by kernel_rfl) (by kernel_rfl) (fun _ _ _ h => h) (Or.inr ⟨by rfl, rfl⟩) hHeld ?_
    (repeat (first | simp only [Act.put] | simp only [List.setIfInBounds_toArray] | simp only [List.set_cons_zero] | simp only [List.set_cons_succ]))
    refine takeD (i := 23) (d := some 38) (v := undef) rfl rfl (by kernel_rfl) (by kernel_rfl) (by kernel_rfl) (fun _ _ _ h => h) (Or.inr ⟨by rfl, rfl⟩) hHeld ?_
    (repeat (first | simp only [Act.put] | simp only [List.setIfInBounds_toArray] | simp only [List.set_cons_zero] | simp only [List.set_cons_succ]))
    refine takeD (i := 24) (d := some 39) (v := undef) rfl rfl (by kernel_rfl) (by kernel_rfl) (by kernel_rfl) (fun _ _ _ h => h) (Or.inr ⟨by rfl, rfl⟩) hHeld ?_
    (repeat (first | simp only [Act.put] | simp only [List.setIfInBounds_toArray] | simp only [List.set_cons_zero] | simp only [List.set_cons_succ]))
    refine takeD (i := 25) (d := some 40) (v := undef) rfl rfl (by kernel_rfl) (by kernel_rfl) (by kernel_rfl) (fun _ _ _ h => h) (Or.inr ⟨by rfl, rfl⟩) hHeld ?_
    (repeat (first | simp only [Act.put] | simp only [List.setIfInBounds_toArray] | simp only [List.set_cons_zero] | simp only [List.set_cons_succ]))
    refine takeD (i := 26) (d := some 41) (v := undef) rfl rfl (by kernel_rfl) (by kernel_rfl) (by kernel_rfl) (fun _ _ _ h => h) (Or.inr ⟨by rfl, rfl⟩) hHeld ?_
    (repeat (first | simp only [Act.put] | simp only [List.setIfInBounds_toArray] | simp only [List.set_cons_zero] | simp only [List.set_cons_succ]))
    refine takeD (i := 27) (d := some 42) (v := ?_) rfl rfl (by kernel_rfl) (by kernel_rfl) (by kernel_rfl) (fun _ _ _ h => h) (Or.inl ⟨by rfl, ?_⟩) hHeld ?_
    rotate_left 1
    focus (intro w hSw; (try dsimp only at hSw); go_simp; (try with_reducible rfl))
    (repeat (first | simp only [Act.put] | simp only [List.setIfInBounds_toArray] | simp only [List.set_cons_zero] | simp only [List.set_cons_succ]))
    refine takeD (i := 28) (d := some 4) (v := ?_) rfl rfl (by kernel_rfl) (by kernel_rfl) (by kernel_rfl) (fun _ _ _ h => h) (Or.inl ⟨by rfl, ?_⟩) hHeld ?_
    rotate_left 1
    focus (intro w hSw; (try dsimp only at hSw); go_simp; (try with_reducible rfl))
    (repeat (first | simp only [Act.put] | simp only [List.setIfInBounds_toArray] | simp only [List.set_cons_zero] | simp only [List.set_cons_succ]))
    refine wpAnyH_done (by kernel_rfl) ?_ _
    go_wp2_with fail
    go_ret
    exact ⟨ret_bool HQ.out, HBW.out.trans ((show Below W2.heap.size W2 _ from (by repeat (first | with_reducible exact Below.refl _ _ | with_reducible exact HB9.out | (with_reducible refine Below.drew ?_)))).mono HBW.out.size)⟩
  have HZ2 := Lib.hid (show z = (mb && (decide (ry < 1152921504606845789) && (decide (0 < c.checks.length) && Nat.beq pz (c.checks.getD 0 0)))) by rw [HZ.out]; unfold revB; rw [← HRX.out, e1, HMB.out, HPZ.out, HRX.out, HRY.out])
  have HU := Lib.hid hu
  obtain ⟨cx, hcx⟩ : ∃ x, x = c.club := ⟨_, rfl⟩
  obtain ⟨ul, hul'⟩ : ∃ x, x = c.checks.length := ⟨_, rfl⟩
  rw [← hcx, ← hul'] at hl
  rw [← hul'] at HZ2 HU
  have HUL := Lib.hid hul'
  clear e1 hu hcx hul'
  have hlk := hl W1 HB1.out
  go_upto_region 2 with fail
  refine nameC fun W2 hW2 => ?_
  have hb2 : Below W1.heap.size W1 W2 := by rw [hW2.out]; exact (Below.refl _ _).alloc (Nat.le_refl _) _
  have k2 : W2.heap[W1.heap.size]? = some (.cells #[.int .i64 cx, .slice uA ul uc] 64 (0, 0)) := by rw [hW2.out]; exact heap_alloc_new _ _
  obtain ⟨B2, hB2⟩ : ∃ B, B = W1.heap.size := ⟨_, rfl⟩
  rw [← hB2] at k2 ⊢
  have HBW := Lib.hid (HB1.out.trans (hb2.mono HB1.out.size))
  clear hl
  cases mb
  · have HQ := Lib.hid (show false = z by rw [HZ2.out]; rfl)
    have HC2 := Lib.hid (show ∀ W', Below W2.heap.size W2 W' → (W'.cell? ⟨w.heap.size, 0, none⟩ = some (.slice cA n cc) ∧ W'.cell? ⟨w.heap.size, 1, none⟩ = some (.int .i64 thr) ∧ W'.cell? ⟨w.heap.size, 2, none⟩ = some (.int .u64 (rng : Int)) ∧ W'.cell? ⟨w.heap.size, 3, none⟩ = some (.slice kA m kc) ∧ W'.cell? ⟨w.heap.size, 4, none⟩ = some (.slice rA nr rc) ∧ W'.cell? ⟨w.heap.size, 5, none⟩ = some (.slice oA no oc) ∧ W'.cell? ⟨w.heap.size, 6, none⟩ = some (.map (some bp)) ∧ W'.cell? ⟨w.heap.size, 7, none⟩ = some (.map (some bc)) ∧ W'.cell? ⟨w.heap.size, 8, none⟩ = some (.bool dz) ∧ W'.cell? ⟨B1, 0, none⟩ = some (.int .i64 rx) ∧ W'.cell? ⟨B1, 1, none⟩ = some (.int .u64 (ry : Int)) ∧ W'.cell? ⟨B2, 0, none⟩ = some (.int .i64 cx) ∧ W'.cell? ⟨B2, 1, none⟩ = some (.slice uA ul uc)) from fun W' hh => by
      have e2 := (hh.block _ (lt_heap k2)).trans k2
      obtain ⟨c0_0, c0_1, c0_2, c0_3, c0_4, c0_5, c0_6, c0_7, c0_8, c1_0, c1_1⟩ := HC.out W' (hb2.trans (hh.mono hb2.size))
      exact ⟨c0_0, c0_1, c0_2, c0_3, c0_4, c0_5, c0_6, c0_7, c0_8, c1_0, c1_1, cell_of e2 rfl, cell_of e2 rfl⟩)
    clear hW2 hb2 k2 hB2 hlk c0_0 c0_1 c0_2 c0_3 c0_4 c0_5 c0_6 c0_7 c0_8 c1_0 c1_1
    refine wp_region_held_drew (S := fun W9 => Below W2.heap.size W2 W9) (by kernel_rfl) (Below.drew (Below.refl _ _)) (fun hHeld => ?_)
    change wpAnyH _ _ _ _ _ 29 #[false, false, false, false, false, false, false, false, false, false, false, false, false, false, false, false, false, false, false, false, false, false, false, false, false, false, false, false, false] _ W2.drew
    refine takeD (i := 0) (d := some 15) (v := ?_) rfl rfl (by kernel_rfl) (by kernel_rfl) (by kernel_rfl) (fun _ _ _ h => h) (Or.inl ⟨by rfl, ?_⟩) hHeld ?_
    rotate_left 1
    focus (intro w hSw; (try dsimp only at hSw); go_simp; (try with_reducible rfl))
    (repeat (first | simp only [Act.put] | simp only [List.setIfInBounds_toArray] | simp only [List.set_cons_zero] | simp only [List.set_cons_succ]))
    refine takeD (i := 1) (d := some 16) (v := ?_) rfl rfl (by kernel_rfl) (by kernel_rfl) (by kernel_rfl) (fun _ _ _ h => h) (Or.inl ⟨by rfl, ?_⟩) hHeld ?_
    rotate_left 1
    focus (intro w hSw; (try dsimp only at hSw); go_simp; (try with_reducible rfl))
    (repeat (first | simp only [Act.put] | simp only [List.setIfInBounds_toArray] | simp only [List.set_cons_zero] | simp only [List.set_cons_succ]))
    refine takeD (i := 2) (d := some 17) (v := ?_) rfl rfl (by kernel_rfl) (by kernel_rfl) (by kernel_rfl) (fun _ _ _ h => h) (Or.inl ⟨by rfl, ?_⟩) hHeld ?_
    rotate_left 1
    focus (intro w hSw; (try dsimp only at hSw); obtain ⟨c0_0, c0_1, c0_2, c0_3, c0_4, c0_5, c0_6, c0_7, c0_8, c1_0, c1_1, c2_0, c2_1⟩ := HC2.out w hSw; go_simp; (try with_reducible rfl))
    (repeat (first | simp only [Act.put] | simp only [List.setIfInBounds_toArray] | simp only [List.set_cons_zero] | simp only [List.set_cons_succ]))
    refine takeD (i := 3) (d := some 18) (v := ?_) rfl rfl (by kernel_rfl) (by kernel_rfl) (by kernel_rfl) (fun _ _ _ h => h) (Or.inl ⟨by rfl, ?_⟩) hHeld ?_
    rotate_left 1
    focus (intro w hSw; (try dsimp only at hSw); go_simp; (try with_reducible rfl))
    (repeat (first | simp only [Act.put] | simp only [List.setIfInBounds_toArray] | simp only [List.set_cons_zero] | simp only [List.set_cons_succ]))
    refine takeD (i := 4) (d := some 19) (v := ?_) rfl rfl (by kernel_rfl) (by kernel_rfl) (by kernel_rfl) (fun _ _ _ h => h) (Or.inl ⟨by rfl, ?_⟩) hHeld ?_
    rotate_left 1
    focus (intro w hSw; (try dsimp only at hSw); obtain ⟨c0_0, c0_1, c0_2, c0_3, c0_4, c0_5, c0_6, c0_7, c0_8, c1_0, c1_1, c2_0, c2_1⟩ := HC2.out w hSw; go_simp; (try with_reducible rfl))
    (repeat (first | simp only [Act.put] | simp only [List.setIfInBounds_toArray] | simp only [List.set_cons_zero] | simp only [List.set_cons_succ]))
    refine wpAnyH_ready (rs := [5]) (by kernel_rfl) (by simp) ?_
    refine AllReadyH.cons rfl (fun K hK => ?_) AllReadyH.nil
    go_simp
    go_at_call 57
    refine ((D1.out _ (HBW.out.trans ((show Below W2.heap.size W2 _ from (by repeat (first | with_reducible exact Below.refl _ _ | with_reducible exact HB9.out | (with_reducible refine Below.drew ?_)))).mono HBW.out.size))).out).mono ?_
    rintro e w9 ⟨rfl, hb9⟩
    have HBn : Hid (Below W2.heap.size W2 w9) := Lib.hid ((show Below W2.heap.size W2 _ from (by repeat (first | with_reducible exact Below.refl _ _ | with_reducible exact HB9.out | (with_reducible refine Below.drew ?_)))).trans (hb9.mono (show W2.heap.size ≤ _ from (show Below W2.heap.size W2 _ from (by repeat (first | with_reducible exact Below.refl _ _ | with_reducible exact HB9.out | (with_reducible refine Below.drew ?_)))).size)))
    clear hb9
    have HB9 := HBn
    clear HBn
    refine hK.out _ _ (by repeat (first | with_reducible exact Below.refl _ _ | with_reducible exact HB9.out | (with_reducible refine Below.drew ?_))) (fun hHeld => ?_)
    clear hK K
    (repeat (first | simp only [Act.put] | simp only [List.setIfInBounds_toArray] | simp only [List.set_cons_zero] | simp only [List.set_cons_succ]))
    refine takeD (i := 6) (d := some 21) (v := ?_) rfl rfl (by kernel_rfl) (by kernel_rfl) (by kernel_rfl) (fun _ _ _ h => h) (Or.inl ⟨by rfl, ?_⟩) hHeld ?_
    rotate_left 1
    focus (intro w hSw; (try dsimp only at hSw); go_simp; (try with_reducible rfl))
    (repeat (first | simp only [Act.put] | simp only [List.setIfInBounds_toArray] | simp only [List.set_cons_zero] | simp only [List.set_cons_succ]))
    refine takeD (i := 7) (d := some 22) (v := ?_) rfl rfl (by kernel_rfl) (by kernel_rfl) (by kernel_rfl) (fun _ _ _ h => h) (Or.inl ⟨by rfl, ?_⟩) hHeld ?_
    rotate_left 1
    focus (intro w hSw; (try dsimp only at hSw); go_simp; (try with_reducible rfl))
    (repeat (first | simp only [Act.put] | simp only [List.setIfInBounds_toArray] | simp only [List.set_cons_zero] | simp only [List.set_cons_succ]))
    refine takeD (i := 8) (d := some 23) (v := undef) rfl rfl (by kernel_rfl) (by kernel_rfl) (by kernel_rfl) (fun _ _ _ h => h) (Or.inr ⟨by rfl, rfl⟩) hHeld ?_
    (repeat (first | simp only [Act.put] | simp only [List.setIfInBounds_toArray] | simp only [List.set_cons_zero] | simp only [List.set_cons_succ]))
    refine takeD (i := 9) (d := some 24) (v := undef) rfl rfl (by kernel_rfl) (by kernel_rfl) (by kernel_rfl) (fun _ _ _ h => h) (Or.inr ⟨by rfl, rfl⟩) hHeld ?_
    (repeat (first | simp only [Act.put] | simp only [List.setIfInBounds_toArray] | simp only [List.set_cons_zero] | simp only [List.set_cons_succ]))
    refine takeD (i := 10) (d := some 25) (v := undef) rfl rfl (by kernel_rfl) (by kernel_rfl) (by kernel_rfl) (fun _ _ _ h => h) (Or.inr ⟨by rfl, rfl⟩) hHeld ?_
    (repeat (first | simp only [Act.put] | simp only [List.setIfInBounds_toArray] | simp only [List.set_cons_zero] | simp only [List.set_cons_succ]))
    refine takeD (i := 11) (d := some 26) (v := ?_) rfl rfl (by kernel_rfl) (by kernel_rfl) (by kernel_rfl) (fun _ _ _ h => h) (Or.inl ⟨by rfl, ?_⟩) hHeld ?_
    rotate_left 1
    focus (intro w hSw; (try dsimp only at hSw); go_simp; (try with_reducible rfl))
    (repeat (first | simp only [Act.put] | simp only [List.setIfInBounds_toArray] | simp only [List.set_cons_zero] | simp only [List.set_cons_succ]))
    refine takeD (i := 12) (d := some 27) (v := ?_) rfl rfl (by kernel_rfl) (by kernel_rfl) (by kernel_rfl) (fun _ _ _ h => h) (Or.inl ⟨by rfl, ?_⟩) hHeld ?_
    rotate_left 1
    focus (intro w hSw; (try dsimp only at hSw); go_simp; (try with_reducible rfl))
    (repeat (first | simp only [Act.put] | simp only [List.setIfInBounds_toArray] | simp only [List.set_cons_zero] | simp only [List.set_cons_succ]))
    refine takeD (i := 13) (d := some 28) (v := undef) rfl rfl (by kernel_rfl) (by kernel_rfl) (by kernel_rfl) (fun _ _ _ h => h) (Or.inr ⟨by rfl, rfl⟩) hHeld ?_
    (repeat (first | simp only [Act.put] | simp only [List.setIfInBounds_toArray] | simp only [List.set_cons_zero] | simp only [List.set_cons_succ]))
    refine takeD (i := 14) (d := some 29) (v := undef) rfl rfl (by kernel_rfl) (by kernel_rfl) (by kernel_rfl) (fun _ _ _ h => h) (Or.inr ⟨by rfl, rfl⟩) hHeld ?_
    (repeat (first | simp only [Act.put] | simp only [List.setIfInBounds_toArray] | simp only [List.set_cons_zero] | simp only [List.set_cons_succ]))
    refine takeD (i := 15) (d := some 30) (v := undef) rfl rfl (by kernel_rfl) (by kernel_rfl) (by kernel_rfl) (fun _ _ _ h => h) (Or.inr ⟨by rfl, rfl⟩) hHeld ?_
    (repeat (first | simp only [Act.put] | simp only [List.setIfInBounds_toArray] | simp only [List.set_cons_zero] | simp only [List.set_cons_succ]))
    refine takeD (i := 16) (d := some 31) (v := undef) rfl rfl (by kernel_rfl) (by kernel_rfl) (by kernel_rfl) (fun _ _ _ h => h) (Or.inr ⟨by rfl, rfl⟩) hHeld ?_
    (repeat (first | simp only [Act.put] | simp only [List.setIfInBounds_toArray] | simp only [List.set_cons_zero] | simp only [List.set_cons_succ]))
    refine takeD (i := 17) (d := some 32) (v := ?_) rfl rfl (by kernel_rfl) (by kernel_rfl) (by kernel_rfl) (fun _ _ _ h => h) (Or.inl ⟨by rfl, ?_⟩) hHeld ?_
    rotate_left 1
    focus (intro w hSw; (try dsimp only at hSw); go_simp; (try with_reducible rfl))
    (repeat (first | simp only [Act.put] | simp only [List.setIfInBounds_toArray] | simp only [List.set_cons_zero] | simp only [List.set_cons_succ]))
    refine takeD (i := 18) (d := some 33) (v := ?_) rfl rfl (by kernel_rfl) (by kernel_rfl) (by kernel_rfl) (fun _ _ _ h => h) (Or.inl ⟨by rfl, ?_⟩) hHeld ?_
    rotate_left 1
    focus (intro w hSw; (try dsimp only at hSw); go_simp; (try with_reducible rfl))
    (repeat (first | simp only [Act.put] | simp only [List.setIfInBounds_toArray] | simp only [List.set_cons_zero] | simp only [List.set_cons_succ]))
    refine takeD (i := 19) (d := some 34) (v := undef) rfl rfl (by kernel_rfl) (by kernel_rfl) (by kernel_rfl) (fun _ _ _ h => h) (Or.inr ⟨by rfl, rfl⟩) hHeld ?_
    (repeat (first | simp only [Act.put] | simp only [List.setIfInBounds_toArray] | simp only [List.set_cons_zero] | simp only [List.set_cons_succ]))
    refine takeD (i := 20) (d := some 35) (v := undef) rfl rfl (by kernel_rfl) (by kernel_rfl) (by kernel_rfl) (fun _ _ _ h => h) (Or.inr ⟨by rfl, rfl⟩) hHeld ?_
    (repeat (first | simp only [Act.put] | simp only [List.setIfInBounds_toArray] | simp only [List.set_cons_zero] | simp only [List.set_cons_succ]))
    refine takeD (i := 21) (d := some 36) (v := undef) rfl rfl (by kernel_rfl) (by kernel_rfl) (by kernel_rfl) (fun _ _ _ h => h) (Or.inr ⟨by rfl, rfl⟩) hHeld ?_
    (repeat (first | simp only [Act.put] | simp only [List.setIfInBounds_toArray] | simp only [List.set_cons_zero] | simp only [List.set_cons_succ]))
    refine takeD (i := 22) (d := some 37) (v := undef) rfl rfl (by kernel_rfl) (by kernel_rfl) (by kernel_rfl) (fun _ _ _ h => h) (Or.inr ⟨by rfl, rfl⟩) hHeld ?_
    (repeat (first | simp only [Act.put] | simp only [List.setIfInBounds_toArray] | simp only [List.set_cons_zero] | simp only [List.set_cons_succ]))
    refine takeD (i := 23) (d := some 38) (v := undef) rfl rfl (by kernel_rfl) (by kernel_rfl) (by kernel_rfl) (fun _ _ _ h => h) (Or.inr ⟨by rfl, rfl⟩) hHeld ?_
    (repeat (first | simp only [Act.put] | simp only [List.setIfInBounds_toArray] | simp only [List.set_cons_zero] | simp only [List.set_cons_succ]))
    refine takeD (i := 24) (d := some 39) (v := undef) rfl rfl (by kernel_rfl) (by kernel_rfl) (by kernel_rfl) (fun _ _ _ h => h) (Or.inr ⟨by rfl, rfl⟩) hHeld ?_
    (repeat (first | simp only [Act.put] | simp only [List.setIfInBounds_toArray] | simp only [List.set_cons_zero] | simp only [List.set_cons_succ]))
    refine takeD (i := 25) (d := some 40) (v := undef) rfl rfl (by kernel_rfl) (by kernel_rfl) (by kernel_rfl) (fun _ _ _ h => h) (Or.inr ⟨by rfl, rfl⟩) hHeld ?_
    (repeat (first | simp only [Act.put] | simp only [List.setIfInBounds_toArray] | simp only [List.set_cons_zero] | simp only [List.set_cons_succ]))
    refine takeD (i := 26) (d := some 41) (v := undef) rfl rfl (by kernel_rfl) (by kernel_rfl) (by kernel_rfl) (fun _ _ _ h => h) (Or.inr ⟨by rfl, rfl⟩) hHeld ?_
    (repeat (first | simp only [Act.put] | simp only [List.setIfInBounds_toArray] | simp only [List.set_cons_zero] | simp only [List.set_cons_succ]))
    refine takeD (i := 27) (d := some 42) (v := ?_) rfl rfl (by kernel_rfl) (by kernel_rfl) (by kernel_rfl) (fun _ _ _ h => h) (Or.inl ⟨by rfl, ?_⟩) hHeld ?_
    rotate_left 1
    focus (intro w hSw; (try dsimp only at hSw); go_simp; (try with_reducible rfl))
    (repeat (first | simp only [Act.put] | simp only [List.setIfInBounds_toArray] | simp only [List.set_cons_zero] | simp only [List.set_cons_succ]))
    refine takeD (i := 28) (d := some 4) (v := ?_) rfl rfl (by kernel_rfl) (by kernel_rfl) (by kernel_rfl) (fun _ _ _ h => h) (Or.inl ⟨by rfl, ?_⟩) hHeld ?_
    rotate_left 1
    focus (intro w hSw; (try dsimp only at hSw); go_simp; (try with_reducible rfl))
    (repeat (first | simp only [Act.put] | simp only [List.setIfInBounds_toArray] | simp only [List.set_cons_zero] | simp only [List.set_cons_succ]))
    refine wpAnyH_done (by kernel_rfl) ?_ _
    go_wp2_with fail
    go_ret
    exact ⟨ret_bool HQ.out, HBW.out.trans ((show Below W2.heap.size W2 _ from (by repeat (first | with_reducible exact Below.refl _ _ | with_reducible exact HB9.out | (with_reducible refine Below.drew ?_)))).mono HBW.out.size)⟩
  by_cases t1 : ry < 1152921504606845789
  case neg =>
    have d1 : decide ((ry : Int) < 1152921504606845789) = false := decide_eq_false (by omega)
    have HQ := Lib.hid (show false = z by rw [HZ2.out, decide_eq_false t1]; rfl)
    clear t1
    have HC2 := Lib.hid (show ∀ W', Below W2.heap.size W2 W' → (W'.cell? ⟨w.heap.size, 0, none⟩ = some (.slice cA n cc) ∧ W'.cell? ⟨w.heap.size, 1, none⟩ = some (.int .i64 thr) ∧ W'.cell? ⟨w.heap.size, 2, none⟩ = some (.int .u64 (rng : Int)) ∧ W'.cell? ⟨w.heap.size, 3, none⟩ = some (.slice kA m kc) ∧ W'.cell? ⟨w.heap.size, 4, none⟩ = some (.slice rA nr rc) ∧ W'.cell? ⟨w.heap.size, 5, none⟩ = some (.slice oA no oc) ∧ W'.cell? ⟨w.heap.size, 6, none⟩ = some (.map (some bp)) ∧ W'.cell? ⟨w.heap.size, 7, none⟩ = some (.map (some bc)) ∧ W'.cell? ⟨w.heap.size, 8, none⟩ = some (.bool dz) ∧ W'.cell? ⟨B1, 0, none⟩ = some (.int .i64 rx) ∧ W'.cell? ⟨B1, 1, none⟩ = some (.int .u64 (ry : Int)) ∧ W'.cell? ⟨B2, 0, none⟩ = some (.int .i64 cx) ∧ W'.cell? ⟨B2, 1, none⟩ = some (.slice uA ul uc)) from fun W' hh => by
      have e2 := (hh.block _ (lt_heap k2)).trans k2
      obtain ⟨c0_0, c0_1, c0_2, c0_3, c0_4, c0_5, c0_6, c0_7, c0_8, c1_0, c1_1⟩ := HC.out W' (hb2.trans (hh.mono hb2.size))
      exact ⟨c0_0, c0_1, c0_2, c0_3, c0_4, c0_5, c0_6, c0_7, c0_8, c1_0, c1_1, cell_of e2 rfl, cell_of e2 rfl⟩)
    clear hW2 hb2 k2 hB2 hlk c0_0 c0_1 c0_2 c0_3 c0_4 c0_5 c0_6 c0_7 c0_8 c1_0 c1_1
    refine wp_region_held_drew (S := fun W9 => Below W2.heap.size W2 W9) (by kernel_rfl) (Below.drew (Below.refl _ _)) (fun hHeld => ?_)
    change wpAnyH _ _ _ _ _ 29 #[false, false, false, false, false, false, false, false, false, false, false, false, false, false, false, false, false, false, false, false, false, false, false, false, false, false, false, false, false] _ W2.drew
    refine takeD (i := 0) (d := some 15) (v := ?_) rfl rfl (by kernel_rfl) (by kernel_rfl) (by kernel_rfl) (fun _ _ _ h => h) (Or.inl ⟨by rfl, ?_⟩) hHeld ?_
    rotate_left 1
    focus (intro w hSw; (try dsimp only at hSw); go_simp; (try with_reducible rfl))
    (repeat (first | simp only [Act.put] | simp only [List.setIfInBounds_toArray] | simp only [List.set_cons_zero] | simp only [List.set_cons_succ]))
    refine takeD (i := 1) (d := some 16) (v := ?_) rfl rfl (by kernel_rfl) (by kernel_rfl) (by kernel_rfl) (fun _ _ _ h => h) (Or.inl ⟨by rfl, ?_⟩) hHeld ?_
    rotate_left 1
    focus (intro w hSw; (try dsimp only at hSw); go_simp; (try with_reducible rfl))
    (repeat (first | simp only [Act.put] | simp only [List.setIfInBounds_toArray] | simp only [List.set_cons_zero] | simp only [List.set_cons_succ]))
    refine takeD (i := 2) (d := some 17) (v := ?_) rfl rfl (by kernel_rfl) (by kernel_rfl) (by kernel_rfl) (fun _ _ _ h => h) (Or.inl ⟨by rfl, ?_⟩) hHeld ?_
    rotate_left 1
    focus (intro w hSw; (try dsimp only at hSw); obtain ⟨c0_0, c0_1, c0_2, c0_3, c0_4, c0_5, c0_6, c0_7, c0_8, c1_0, c1_1, c2_0, c2_1⟩ := HC2.out w hSw; go_simp; (try with_reducible rfl))
    (repeat (first | simp only [Act.put] | simp only [List.setIfInBounds_toArray] | simp only [List.set_cons_zero] | simp only [List.set_cons_succ]))
    refine takeD (i := 3) (d := some 18) (v := ?_) rfl rfl (by kernel_rfl) (by kernel_rfl) (by kernel_rfl) (fun _ _ _ h => h) (Or.inl ⟨by rfl, ?_⟩) hHeld ?_
    rotate_left 1
    focus (intro w hSw; (try dsimp only at hSw); go_simp; (try with_reducible rfl))
    (repeat (first | simp only [Act.put] | simp only [List.setIfInBounds_toArray] | simp only [List.set_cons_zero] | simp only [List.set_cons_succ]))
    refine takeD (i := 4) (d := some 19) (v := ?_) rfl rfl (by kernel_rfl) (by kernel_rfl) (by kernel_rfl) (fun _ _ _ h => h) (Or.inl ⟨by rfl, ?_⟩) hHeld ?_
    rotate_left 1
    focus (intro w hSw; (try dsimp only at hSw); obtain ⟨c0_0, c0_1, c0_2, c0_3, c0_4, c0_5, c0_6, c0_7, c0_8, c1_0, c1_1, c2_0, c2_1⟩ := HC2.out w hSw; go_simp; (try with_reducible rfl))
    (repeat (first | simp only [Act.put] | simp only [List.setIfInBounds_toArray] | simp only [List.set_cons_zero] | simp only [List.set_cons_succ]))
    refine wpAnyH_ready (rs := [5]) (by kernel_rfl) (by simp) ?_
    refine AllReadyH.cons rfl (fun K hK => ?_) AllReadyH.nil
    go_simp
    go_at_call 57
    refine ((D1.out _ (HBW.out.trans ((show Below W2.heap.size W2 _ from (by repeat (first | with_reducible exact Below.refl _ _ | with_reducible exact HB9.out | (with_reducible refine Below.drew ?_)))).mono HBW.out.size))).out).mono ?_
    rintro e w9 ⟨rfl, hb9⟩
    have HBn : Hid (Below W2.heap.size W2 w9) := Lib.hid ((show Below W2.heap.size W2 _ from (by repeat (first | with_reducible exact Below.refl _ _ | with_reducible exact HB9.out | (with_reducible refine Below.drew ?_)))).trans (hb9.mono (show W2.heap.size ≤ _ from (show Below W2.heap.size W2 _ from (by repeat (first | with_reducible exact Below.refl _ _ | with_reducible exact HB9.out | (with_reducible refine Below.drew ?_)))).size)))
    clear hb9
    have HB9 := HBn
    clear HBn
    refine hK.out _ _ (by repeat (first | with_reducible exact Below.refl _ _ | with_reducible exact HB9.out | (with_reducible refine Below.drew ?_))) (fun hHeld => ?_)
    clear hK K
    (repeat (first | simp only [Act.put] | simp only [List.setIfInBounds_toArray] | simp only [List.set_cons_zero] | simp only [List.set_cons_succ]))
    refine takeD (i := 6) (d := some 21) (v := ?_) rfl rfl (by kernel_rfl) (by kernel_rfl) (by kernel_rfl) (fun _ _ _ h => h) (Or.inl ⟨by rfl, ?_⟩) hHeld ?_
    rotate_left 1
    focus (intro w hSw; (try dsimp only at hSw); go_simp; (try with_reducible rfl))
    (repeat (first | simp only [Act.put] | simp only [List.setIfInBounds_toArray] | simp only [List.set_cons_zero] | simp only [List.set_cons_succ]))
    refine takeD (i := 7) (d := some 22) (v := ?_) rfl rfl (by kernel_rfl) (by kernel_rfl) (by kernel_rfl) (fun _ _ _ h => h) (Or.inl ⟨by rfl, ?_⟩) hHeld ?_
    rotate_left 1
    focus (intro w hSw; (try dsimp only at hSw); go_simp; (try with_reducible rfl))
    (repeat (first | simp only [Act.put] | simp only [List.setIfInBounds_toArray] | simp only [List.set_cons_zero] | simp only [List.set_cons_succ]))
    refine takeD (i := 8) (d := some 23) (v := ?_) rfl rfl (by kernel_rfl) (by kernel_rfl) (by kernel_rfl) (fun _ _ _ h => h) (Or.inl ⟨by rfl, ?_⟩) hHeld ?_
    rotate_left 1
    focus (intro w hSw; (try dsimp only at hSw); go_simp; (try with_reducible rfl))
    (repeat (first | simp only [Act.put] | simp only [List.setIfInBounds_toArray] | simp only [List.set_cons_zero] | simp only [List.set_cons_succ]))
    refine takeD (i := 9) (d := some 24) (v := ?_) rfl rfl (by kernel_rfl) (by kernel_rfl) (by kernel_rfl) (fun _ _ _ h => h) (Or.inl ⟨by rfl, ?_⟩) hHeld ?_
    rotate_left 1
    focus (intro w hSw; (try dsimp only at hSw); obtain ⟨c0_0, c0_1, c0_2, c0_3, c0_4, c0_5, c0_6, c0_7, c0_8, c1_0, c1_1, c2_0, c2_1⟩ := HC2.out w hSw; go_simp; (try with_reducible rfl))
    (repeat (first | simp only [Act.put] | simp only [List.setIfInBounds_toArray] | simp only [List.set_cons_zero] | simp only [List.set_cons_succ]))
    refine takeD (i := 10) (d := some 25) (v := ?_) rfl rfl (by kernel_rfl) (by kernel_rfl) (by kernel_rfl) (fun _ _ _ h => h) (Or.inl ⟨by rfl, ?_⟩) hHeld ?_
    rotate_left 1
    focus (intro w hSw; (try dsimp only at hSw); go_simp; (try with_reducible rfl))
    (repeat (first | simp only [Act.put] | simp only [List.setIfInBounds_toArray] | simp only [List.set_cons_zero] | simp only [List.set_cons_succ]))
    refine takeD (i := 11) (d := some 26) (v := ?_) rfl rfl (by kernel_rfl) (by kernel_rfl) (by kernel_rfl) (fun _ _ _ h => h) (Or.inl ⟨by rfl, ?_⟩) hHeld ?_
    rotate_left 1
    focus (intro w hSw; (try dsimp only at hSw); go_simp; (try with_reducible rfl))
    (repeat (first | simp only [Act.put] | simp only [List.setIfInBounds_toArray] | simp only [List.set_cons_zero] | simp only [List.set_cons_succ]))
    refine takeD (i := 12) (d := some 27) (v := ?_) rfl rfl (by kernel_rfl) (by kernel_rfl) (by kernel_rfl) (fun _ _ _ h => h) (Or.inl ⟨by rfl, ?_⟩) hHeld ?_
    rotate_left 1
    focus (intro w hSw; (try dsimp only at hSw); go_simp; (try with_reducible rfl))
    (repeat (first | simp only [Act.put] | simp only [List.setIfInBounds_toArray] | simp only [List.set_cons_zero] | simp only [List.set_cons_succ]))
    refine takeD (i := 13) (d := some 28) (v := undef) rfl rfl (by kernel_rfl) (by kernel_rfl) (by kernel_rfl) (fun _ _ _ h => h) (Or.inr ⟨by rfl, rfl⟩) hHeld ?_
    (repeat (first | simp only [Act.put] | simp only [List.setIfInBounds_toArray] | simp only [List.set_cons_zero] | simp only [List.set_cons_succ]))
    refine takeD (i := 14) (d := some 29) (v := undef) rfl rfl (by kernel_rfl) (by kernel_rfl) (by kernel_rfl) (fun _ _ _ h => h) (Or.inr ⟨by rfl, rfl⟩) hHeld ?_
    (repeat (first | simp only [Act.put] | simp only [List.setIfInBounds_toArray] | simp only [List.set_cons_zero] | simp only [List.set_cons_succ]))
    refine takeD (i := 15) (d := some 30) (v := undef) rfl rfl (by kernel_rfl) (by kernel_rfl) (by kernel_rfl) (fun _ _ _ h => h) (Or.inr ⟨by rfl, rfl⟩) hHeld ?_
    (repeat (first | simp only [Act.put] | simp only [List.setIfInBounds_toArray] | simp only [List.set_cons_zero] | simp only [List.set_cons_succ]))
    refine takeD (i := 16) (d := some 31) (v := undef) rfl rfl (by kernel_rfl) (by kernel_rfl) (by kernel_rfl) (fun _ _ _ h => h) (Or.inr ⟨by rfl, rfl⟩) hHeld ?_
    (repeat (first | simp only [Act.put] | simp only [List.setIfInBounds_toArray] | simp only [List.set_cons_zero] | simp only [List.set_cons_succ]))
    refine takeD (i := 17) (d := some 32) (v := ?_) rfl rfl (by kernel_rfl) (by kernel_rfl) (by kernel_rfl) (fun _ _ _ h => h) (Or.inl ⟨by rfl, ?_⟩) hHeld ?_
    rotate_left 1
    focus (intro w hSw; (try dsimp only at hSw); go_simp; (try with_reducible rfl))
    (repeat (first | simp only [Act.put] | simp only [List.setIfInBounds_toArray] | simp only [List.set_cons_zero] | simp only [List.set_cons_succ]))
    refine takeD (i := 18) (d := some 33) (v := ?_) rfl rfl (by kernel_rfl) (by kernel_rfl) (by kernel_rfl) (fun _ _ _ h => h) (Or.inl ⟨by rfl, ?_⟩) hHeld ?_
    rotate_left 1
    focus (intro w hSw; (try dsimp only at hSw); go_simp; (try with_reducible rfl))
    (repeat (first | simp only [Act.put] | simp only [List.setIfInBounds_toArray] | simp only [List.set_cons_zero] | simp only [List.set_cons_succ]))
    refine takeD (i := 19) (d := some 34) (v := undef) rfl rfl (by kernel_rfl) (by kernel_rfl) (by kernel_rfl) (fun _ _ _ h => h) (Or.inr ⟨by rfl, rfl⟩) hHeld ?_
    (repeat (first | simp only [Act.put] | simp only [List.setIfInBounds_toArray] | simp only [List.set_cons_zero] | simp only [List.set_cons_succ]))
    refine takeD (i := 20) (d := some 35) (v := undef) rfl rfl (by kernel_rfl) (by kernel_rfl) (by kernel_rfl) (fun _ _ _ h => h) (Or.inr ⟨by rfl, rfl⟩) hHeld ?_
    (repeat (first | simp only [Act.put] | simp only [List.setIfInBounds_toArray] | simp only [List.set_cons_zero] | simp only [List.set_cons_succ]))
    refine takeD (i := 21) (d := some 36) (v := undef) rfl rfl (by kernel_rfl) (by kernel_rfl) (by kernel_rfl) (fun _ _ _ h => h) (Or.inr ⟨by rfl, rfl⟩) hHeld ?_
    (repeat (first | simp only [Act.put] | simp only [List.setIfInBounds_toArray] | simp only [List.set_cons_zero] | simp only [List.set_cons_succ]))
    refine takeD (i := 22) (d := some 37) (v := undef) rfl rfl (by kernel_rfl) (by kernel_rfl) (by kernel_rfl) (fun _ _ _ h => h) (Or.inr ⟨by rfl, rfl⟩) hHeld ?_
    (repeat (first | simp only [Act.put] | simp only [List.setIfInBounds_toArray] | simp only [List.set_cons_zero] | simp only [List.set_cons_succ]))
    refine takeD (i := 23) (d := some 38) (v := undef) rfl rfl (by kernel_rfl) (by kernel_rfl) (by kernel_rfl) (fun _ _ _ h => h) (Or.inr ⟨by rfl, rfl⟩) hHeld ?_
    (repeat (first | simp only [Act.put] | simp only [List.setIfInBounds_toArray] | simp only [List.set_cons_zero] | simp only [List.set_cons_succ]))
    refine takeD (i := 24) (d := some 39) (v := undef) rfl rfl (by kernel_rfl) (by kernel_rfl) (by kernel_rfl) (fun _ _ _ h => h) (Or.inr ⟨by rfl, rfl⟩) hHeld ?_
    (repeat (first | simp only [Act.put] | simp only [List.setIfInBounds_toArray] | simp only [List.set_cons_zero] | simp only [List.set_cons_succ]))
    refine takeD (i := 25) (d := some 40) (v := undef) rfl rfl (by kernel_rfl) (by kernel_rfl) (by kernel_rfl) (fun _ _ _ h => h) (Or.inr ⟨by rfl, rfl⟩) hHeld ?_
    (repeat (first | simp only [Act.put] | simp only [List.setIfInBounds_toArray] | simp only [List.set_cons_zero] | simp only [List.set_cons_succ]))
    refine takeD (i := 26) (d := some 41) (v := undef) rfl rfl (by kernel_rfl) (by kernel_rfl) (by kernel_rfl) (fun _ _ _ h => h) (Or.inr ⟨by rfl, rfl⟩) hHeld ?_
    (repeat (first | simp only [Act.put] | simp only [List.setIfInBounds_toArray] | simp only [List.set_cons_zero] | simp only [List.set_cons_succ]))
    refine takeD (i := 27) (d := some 42) (v := ?_) rfl rfl (by kernel_rfl) (by kernel_rfl) (by kernel_rfl) (fun _ _ _ h => h) (Or.inl ⟨by rfl, ?_⟩) hHeld ?_
    rotate_left 1
    focus (intro w hSw; (try dsimp only at hSw); go_simp; (try with_reducible rfl))
    (repeat (first | simp only [Act.put] | simp only [List.setIfInBounds_toArray] | simp only [List.set_cons_zero] | simp only [List.set_cons_succ]))
    refine takeD (i := 28) (d := some 4) (v := ?_) rfl rfl (by kernel_rfl) (by kernel_rfl) (by kernel_rfl) (fun _ _ _ h => h) (Or.inl ⟨by rfl, ?_⟩) hHeld ?_
    rotate_left 1
    focus (intro w hSw; (try dsimp only at hSw); go_simp; (try with_reducible rfl))
    (repeat (first | simp only [Act.put] | simp only [List.setIfInBounds_toArray] | simp only [List.set_cons_zero] | simp only [List.set_cons_succ]))
    refine wpAnyH_done (by kernel_rfl) ?_ _
    go_wp2_with fail
    go_ret
    exact ⟨ret_bool HQ.out, HBW.out.trans ((show Below W2.heap.size W2 _ from (by repeat (first | with_reducible exact Below.refl _ _ | with_reducible exact HB9.out | (with_reducible refine Below.drew ?_)))).mono HBW.out.size)⟩
  have d1 : decide ((ry : Int) < 1152921504606845789) = true := decide_eq_true (by omega)
  by_cases t2 : 0 < ul
  case neg =>
    have d2 : decide ((0 : Int) < (ul : Int)) = false := decide_eq_false (by omega)
    have d2n : decide (0 < ul) = false := decide_eq_false (by omega)
    have HQ := Lib.hid (show false = z by rw [HZ2.out, decide_eq_false t2, decide_eq_true t1]; rfl)
    clear t1 t2
    have HC2 := Lib.hid (show ∀ W', Below W2.heap.size W2 W' → (W'.cell? ⟨w.heap.size, 0, none⟩ = some (.slice cA n cc) ∧ W'.cell? ⟨w.heap.size, 1, none⟩ = some (.int .i64 thr) ∧ W'.cell? ⟨w.heap.size, 2, none⟩ = some (.int .u64 (rng : Int)) ∧ W'.cell? ⟨w.heap.size, 3, none⟩ = some (.slice kA m kc) ∧ W'.cell? ⟨w.heap.size, 4, none⟩ = some (.slice rA nr rc) ∧ W'.cell? ⟨w.heap.size, 5, none⟩ = some (.slice oA no oc) ∧ W'.cell? ⟨w.heap.size, 6, none⟩ = some (.map (some bp)) ∧ W'.cell? ⟨w.heap.size, 7, none⟩ = some (.map (some bc)) ∧ W'.cell? ⟨w.heap.size, 8, none⟩ = some (.bool dz) ∧ W'.cell? ⟨B1, 0, none⟩ = some (.int .i64 rx) ∧ W'.cell? ⟨B1, 1, none⟩ = some (.int .u64 (ry : Int)) ∧ W'.cell? ⟨B2, 0, none⟩ = some (.int .i64 cx) ∧ W'.cell? ⟨B2, 1, none⟩ = some (.slice uA ul uc)) from fun W' hh => by
      have e2 := (hh.block _ (lt_heap k2)).trans k2
      obtain ⟨c0_0, c0_1, c0_2, c0_3, c0_4, c0_5, c0_6, c0_7, c0_8, c1_0, c1_1⟩ := HC.out W' (hb2.trans (hh.mono hb2.size))
      exact ⟨c0_0, c0_1, c0_2, c0_3, c0_4, c0_5, c0_6, c0_7, c0_8, c1_0, c1_1, cell_of e2 rfl, cell_of e2 rfl⟩)
    clear hW2 hb2 k2 hB2 hlk c0_0 c0_1 c0_2 c0_3 c0_4 c0_5 c0_6 c0_7 c0_8 c1_0 c1_1
    refine wp_region_held_drew (S := fun W9 => Below W2.heap.size W2 W9) (by kernel_rfl) (Below.drew (Below.refl _ _)) (fun hHeld => ?_)
    change wpAnyH _ _ _ _ _ 29 #[false, false, false, false, false, false, false, false, false, false, false, false, false, false, false, false, false, false, false, false, false, false, false, false, false, false, false, false, false] _ W2.drew
    refine takeD (i := 0) (d := some 15) (v := ?_) rfl rfl (by kernel_rfl) (by kernel_rfl) (by kernel_rfl) (fun _ _ _ h => h) (Or.inl ⟨by rfl, ?_⟩) hHeld ?_
    rotate_left 1
    focus (intro w hSw; (try dsimp only at hSw); go_simp; (try with_reducible rfl))
    (repeat (first | simp only [Act.put] | simp only [List.setIfInBounds_toArray] | simp only [List.set_cons_zero] | simp only [List.set_cons_succ]))
    refine takeD (i := 1) (d := some 16) (v := ?_) rfl rfl (by kernel_rfl) (by kernel_rfl) (by kernel_rfl) (fun _ _ _ h => h) (Or.inl ⟨by rfl, ?_⟩) hHeld ?_
    rotate_left 1
    focus (intro w hSw; (try dsimp only at hSw); go_simp; (try with_reducible rfl))
    (repeat (first | simp only [Act.put] | simp only [List.setIfInBounds_toArray] | simp only [List.set_cons_zero] | simp only [List.set_cons_succ]))
    refine takeD (i := 2) (d := some 17) (v := ?_) rfl rfl (by kernel_rfl) (by kernel_rfl) (by kernel_rfl) (fun _ _ _ h => h) (Or.inl ⟨by rfl, ?_⟩) hHeld ?_
    rotate_left 1
    focus (intro w hSw; (try dsimp only at hSw); obtain ⟨c0_0, c0_1, c0_2, c0_3, c0_4, c0_5, c0_6, c0_7, c0_8, c1_0, c1_1, c2_0, c2_1⟩ := HC2.out w hSw; go_simp; (try with_reducible rfl))
    (repeat (first | simp only [Act.put] | simp only [List.setIfInBounds_toArray] | simp only [List.set_cons_zero] | simp only [List.set_cons_succ]))
    refine takeD (i := 3) (d := some 18) (v := ?_) rfl rfl (by kernel_rfl) (by kernel_rfl) (by kernel_rfl) (fun _ _ _ h => h) (Or.inl ⟨by rfl, ?_⟩) hHeld ?_
    rotate_left 1
    focus (intro w hSw; (try dsimp only at hSw); go_simp; (try with_reducible rfl))
    (repeat (first | simp only [Act.put] | simp only [List.setIfInBounds_toArray] | simp only [List.set_cons_zero] | simp only [List.set_cons_succ]))
    refine takeD (i := 4) (d := some 19) (v := ?_) rfl rfl (by kernel_rfl) (by kernel_rfl) (by kernel_rfl) (fun _ _ _ h => h) (Or.inl ⟨by rfl, ?_⟩) hHeld ?_
    rotate_left 1
    focus (intro w hSw; (try dsimp only at hSw); obtain ⟨c0_0, c0_1, c0_2, c0_3, c0_4, c0_5, c0_6, c0_7, c0_8, c1_0, c1_1, c2_0, c2_1⟩ := HC2.out w hSw; go_simp; (try with_reducible rfl))
    (repeat (first | simp only [Act.put] | simp only [List.setIfInBounds_toArray] | simp only [List.set_cons_zero] | simp only [List.set_cons_succ]))
    refine wpAnyH_ready (rs := [5]) (by kernel_rfl) (by simp) ?_
    refine AllReadyH.cons rfl (fun K hK => ?_) AllReadyH.nil
    go_simp
    go_at_call 57
    refine ((D1.out _ (HBW.out.trans ((show Below W2.heap.size W2 _ from (by repeat (first | with_reducible exact Below.refl _ _ | with_reducible exact HB9.out | (with_reducible refine Below.drew ?_)))).mono HBW.out.size))).out).mono ?_
    rintro e w9 ⟨rfl, hb9⟩
    have HBn : Hid (Below W2.heap.size W2 w9) := Lib.hid ((show Below W2.heap.size W2 _ from (by repeat (first | with_reducible exact Below.refl _ _ | with_reducible exact HB9.out | (with_reducible refine Below.drew ?_)))).trans (hb9.mono (show W2.heap.size ≤ _ from (show Below W2.heap.size W2 _ from (by repeat (first | with_reducible exact Below.refl _ _ | with_reducible exact HB9.out | (with_reducible refine Below.drew ?_)))).size)))
    clear hb9
    have HB9 := HBn
    clear HBn
    refine hK.out _ _ (by repeat (first | with_reducible exact Below.refl _ _ | with_reducible exact HB9.out | (with_reducible refine Below.drew ?_))) (fun hHeld => ?_)
    clear hK K
    (repeat (first | simp only [Act.put] | simp only [List.setIfInBounds_toArray] | simp only [List.set_cons_zero] | simp only [List.set_cons_succ]))
    refine takeD (i := 6) (d := some 21) (v := ?_) rfl rfl (by kernel_rfl) (by kernel_rfl) (by kernel_rfl) (fun _ _ _ h => h) (Or.inl ⟨by rfl, ?_⟩) hHeld ?_
    rotate_left 1
    focus (intro w hSw; (try dsimp only at hSw); go_simp; (try with_reducible rfl))
    (repeat (first | simp only [Act.put] | simp only [List.setIfInBounds_toArray] | simp only [List.set_cons_zero] | simp only [List.set_cons_succ]))
    refine takeD (i := 7) (d := some 22) (v := ?_) rfl rfl (by kernel_rfl) (by kernel_rfl) (by kernel_rfl) (fun _ _ _ h => h) (Or.inl ⟨by rfl, ?_⟩) hHeld ?_
    rotate_left 1
    focus (intro w hSw; (try dsimp only at hSw); go_simp; (try with_reducible rfl))
    (repeat (first | simp only [Act.put] | simp only [List.setIfInBounds_toArray] | simp only [List.set_cons_zero] | simp only [List.set_cons_succ]))
    refine takeD (i := 8) (d := some 23) (v := ?_) rfl rfl (by kernel_rfl) (by kernel_rfl) (by kernel_rfl) (fun _ _ _ h => h) (Or.inl ⟨by rfl, ?_⟩) hHeld ?_
    rotate_left 1
    focus (intro w hSw; (try dsimp only at hSw); go_simp; (try with_reducible rfl))
    (repeat (first | simp only [Act.put] | simp only [List.setIfInBounds_toArray] | simp only [List.set_cons_zero] | simp only [List.set_cons_succ]))
    refine takeD (i := 9) (d := some 24) (v := ?_) rfl rfl (by kernel_rfl) (by kernel_rfl) (by kernel_rfl) (fun _ _ _ h => h) (Or.inl ⟨by rfl, ?_⟩) hHeld ?_
    rotate_left 1
    focus (intro w hSw; (try dsimp only at hSw); obtain ⟨c0_0, c0_1, c0_2, c0_3, c0_4, c0_5, c0_6, c0_7, c0_8, c1_0, c1_1, c2_0, c2_1⟩ := HC2.out w hSw; go_simp; (try with_reducible rfl))
    (repeat (first | simp only [Act.put] | simp only [List.setIfInBounds_toArray] | simp only [List.set_cons_zero] | simp only [List.set_cons_succ]))
    refine takeD (i := 10) (d := some 25) (v := ?_) rfl rfl (by kernel_rfl) (by kernel_rfl) (by kernel_rfl) (fun _ _ _ h => h) (Or.inl ⟨by rfl, ?_⟩) hHeld ?_
    rotate_left 1
    focus (intro w hSw; (try dsimp only at hSw); go_simp; (try with_reducible rfl))
    (repeat (first | simp only [Act.put] | simp only [List.setIfInBounds_toArray] | simp only [List.set_cons_zero] | simp only [List.set_cons_succ]))
    refine takeD (i := 11) (d := some 26) (v := ?_) rfl rfl (by kernel_rfl) (by kernel_rfl) (by kernel_rfl) (fun _ _ _ h => h) (Or.inl ⟨by rfl, ?_⟩) hHeld ?_
    rotate_left 1
    focus (intro w hSw; (try dsimp only at hSw); go_simp; (try with_reducible rfl))
    (repeat (first | simp only [Act.put] | simp only [List.setIfInBounds_toArray] | simp only [List.set_cons_zero] | simp only [List.set_cons_succ]))
    refine takeD (i := 12) (d := some 27) (v := ?_) rfl rfl (by kernel_rfl) (by kernel_rfl) (by kernel_rfl) (fun _ _ _ h => h) (Or.inl ⟨by rfl, ?_⟩) hHeld ?_
    rotate_left 1
    focus (intro w hSw; (try dsimp only at hSw); go_simp; (try with_reducible rfl))
    (repeat (first | simp only [Act.put] | simp only [List.setIfInBounds_toArray] | simp only [List.set_cons_zero] | simp only [List.set_cons_succ]))
    refine takeD (i := 13) (d := some 28) (v := ?_) rfl rfl (by kernel_rfl) (by kernel_rfl) (by kernel_rfl) (fun _ _ _ h => h) (Or.inl ⟨by rfl, ?_⟩) hHeld ?_
    rotate_left 1
    focus (intro w hSw; (try dsimp only at hSw); go_simp; (try with_reducible rfl))
    (repeat (first | simp only [Act.put] | simp only [List.setIfInBounds_toArray] | simp only [List.set_cons_zero] | simp only [List.set_cons_succ]))
    refine takeD (i := 14) (d := some 29) (v := ?_) rfl rfl (by kernel_rfl) (by kernel_rfl) (by kernel_rfl) (fun _ _ _ h => h) (Or.inl ⟨by rfl, ?_⟩) hHeld ?_
    rotate_left 1
    focus (intro w hSw; (try dsimp only at hSw); obtain ⟨c0_0, c0_1, c0_2, c0_3, c0_4, c0_5, c0_6, c0_7, c0_8, c1_0, c1_1, c2_0, c2_1⟩ := HC2.out w hSw; go_simp; (try with_reducible rfl))
    (repeat (first | simp only [Act.put] | simp only [List.setIfInBounds_toArray] | simp only [List.set_cons_zero] | simp only [List.set_cons_succ]))
    refine takeD (i := 15) (d := some 30) (v := ?_) rfl rfl (by kernel_rfl) (by kernel_rfl) (by kernel_rfl) (fun _ _ _ h => h) (Or.inl ⟨by rfl, ?_⟩) hHeld ?_
    rotate_left 1
    focus (intro w hSw; (try dsimp only at hSw); go_simp; (try with_reducible rfl))
    (repeat (first | simp only [Act.put] | simp only [List.setIfInBounds_toArray] | simp only [List.set_cons_zero] | simp only [List.set_cons_succ]))
    refine takeD (i := 16) (d := some 31) (v := ?_) rfl rfl (by kernel_rfl) (by kernel_rfl) (by kernel_rfl) (fun _ _ _ h => h) (Or.inl ⟨by rfl, ?_⟩) hHeld ?_
    rotate_left 1
    focus (intro w hSw; (try dsimp only at hSw); go_simp; (try with_reducible rfl))
    (repeat (first | simp only [Act.put] | simp only [List.setIfInBounds_toArray] | simp only [List.set_cons_zero] | simp only [List.set_cons_succ]))
    refine takeD (i := 17) (d := some 32) (v := ?_) rfl rfl (by kernel_rfl) (by kernel_rfl) (by kernel_rfl) (fun _ _ _ h => h) (Or.inl ⟨by rfl, ?_⟩) hHeld ?_
    rotate_left 1
    focus (intro w hSw; (try dsimp only at hSw); go_simp; (try with_reducible rfl))
    (repeat (first | simp only [Act.put] | simp only [List.setIfInBounds_toArray] | simp only [List.set_cons_zero] | simp only [List.set_cons_succ]))
    refine takeD (i := 18) (d := some 33) (v := ?_) rfl rfl (by kernel_rfl) (by kernel_rfl) (by kernel_rfl) (fun _ _ _ h => h) (Or.inl ⟨by rfl, ?_⟩) hHeld ?_
    rotate_left 1
    focus (intro w hSw; (try dsimp only at hSw); go_simp; (try with_reducible rfl))
    (repeat (first | simp only [Act.put] | simp only [List.setIfInBounds_toArray] | simp only [List.set_cons_zero] | simp only [List.set_cons_succ]))
    refine takeD (i := 19) (d := some 34) (v := undef) rfl rfl (by kernel_rfl) (by kernel_rfl) (by kernel_rfl) (fun _ _ _ h => h) (Or.inr ⟨by rfl, rfl⟩) hHeld ?_
    (repeat (first | simp only [Act.put] | simp only [List.setIfInBounds_toArray] | simp only [List.set_cons_zero] | simp only [List.set_cons_succ]))
    refine takeD (i := 20) (d := some 35) (v := undef) rfl rfl (by kernel_rfl) (by kernel_rfl) (by kernel_rfl) (fun _ _ _ h => h) (Or.inr ⟨by rfl, rfl⟩) hHeld ?_
    (repeat (first | simp only [Act.put] | simp only [List.setIfInBounds_toArray] | simp only [List.set_cons_zero] | simp only [List.set_cons_succ]))
    refine takeD (i := 21) (d := some 36) (v := undef) rfl rfl (by kernel_rfl) (by kernel_rfl) (by kernel_rfl) (fun _ _ _ h => h) (Or.inr ⟨by rfl, rfl⟩) hHeld ?_
    (repeat (first | simp only [Act.put] | simp only [List.setIfInBounds_toArray] | simp only [List.set_cons_zero] | simp only [List.set_cons_succ]))
    refine takeD (i := 22) (d := some 37) (v := undef) rfl rfl (by kernel_rfl) (by kernel_rfl) (by kernel_rfl) (fun _ _ _ h => h) (Or.inr ⟨by rfl, rfl⟩) hHeld ?_
    (repeat (first | simp only [Act.put] | simp only [List.setIfInBounds_toArray] | simp only [List.set_cons_zero] | simp only [List.set_cons_succ]))
    refine takeD (i := 23) (d := some 38) (v := undef) rfl rfl (by kernel_rfl) (by kernel_rfl) (by kernel_rfl) (fun _ _ _ h => h) (Or.inr ⟨by rfl, rfl⟩) hHeld ?_
    (repeat (first | simp only [Act.put] | simp only [List.setIfInBounds_toArray] | simp only [List.set_cons_zero] | simp only [List.set_cons_succ]))
    refine takeD (i := 24) (d := some 39) (v := undef) rfl rfl (by kernel_rfl) (by kernel_rfl) (by kernel_rfl) (fun _ _ _ h => h) (Or.inr ⟨by rfl, rfl⟩) hHeld ?_
    (repeat (first | simp only [Act.put] | simp only [List.setIfInBounds_toArray] | simp only [List.set_cons_zero] | simp only [List.set_cons_succ]))
    refine takeD (i := 25) (d := some 40) (v := undef) rfl rfl (by kernel_rfl) (by kernel_rfl) (by kernel_rfl) (fun _ _ _ h => h) (Or.inr ⟨by rfl, rfl⟩) hHeld ?_
    (repeat (first | simp only [Act.put] | simp only [List.setIfInBounds_toArray] | simp only [List.set_cons_zero] | simp only [List.set_cons_succ]))
    refine takeD (i := 26) (d := some 41) (v := undef) rfl rfl (by kernel_rfl) (by kernel_rfl) (by kernel_rfl) (fun _ _ _ h => h) (Or.inr ⟨by rfl, rfl⟩) hHeld ?_
    (repeat (first | simp only [Act.put] | simp only [List.setIfInBounds_toArray] | simp only [List.set_cons_zero] | simp only [List.set_cons_succ]))
    refine takeD (i := 27) (d := some 42) (v := ?_) rfl rfl (by kernel_rfl) (by kernel_rfl) (by kernel_rfl) (fun _ _ _ h => h) (Or.inl ⟨by rfl, ?_⟩) hHeld ?_
    rotate_left 1
    focus (intro w hSw; (try dsimp only at hSw); go_simp; (try with_reducible rfl))
    (repeat (first | simp only [Act.put] | simp only [List.setIfInBounds_toArray] | simp only [List.set_cons_zero] | simp only [List.set_cons_succ]))
    refine takeD (i := 28) (d := some 4) (v := ?_) rfl rfl (by kernel_rfl) (by kernel_rfl) (by kernel_rfl) (fun _ _ _ h => h) (Or.inl ⟨by rfl, ?_⟩) hHeld ?_
    rotate_left 1
    focus (intro w hSw; (try dsimp only at hSw); go_simp; (try with_reducible rfl))
    (repeat (first | simp only [Act.put] | simp only [List.setIfInBounds_toArray] | simp only [List.set_cons_zero] | simp only [List.set_cons_succ]))
    refine wpAnyH_done (by kernel_rfl) ?_ _
    go_wp2_with fail
    go_ret
    exact ⟨ret_bool HQ.out, HBW.out.trans ((show Below W2.heap.size W2 _ from (by repeat (first | with_reducible exact Below.refl _ _ | with_reducible exact HB9.out | (with_reducible refine Below.drew ?_)))).mono HBW.out.size)⟩
  have d2 : decide ((0 : Int) < (ul : Int)) = true := decide_eq_true (by omega)
  have d2n : decide (0 < ul) = true := decide_eq_true (by omega)
  have d3 : (0 : Int) < (ul : Int) := by omega
  have d3n : 0 < ul := t2
  obtain ⟨A', c', e, h1, h2, h3⟩ := IsSl.below HU.out (Below.refl w.heap.size w)
  obtain ⟨e4, -, e5⟩ := Value.slice.inj e
  subst e4 e5
  obtain ⟨ub, uo, rfl, -, hul, hx⟩ := Cells.at1 h3 HBW.out (show 0 < c.checks.length by rw [← HUL.out]; exact t2)
  obtain ⟨y0, hy0⟩ : ∃ y, y = c.checks.getD 0 0 := ⟨_, rfl⟩
  rw [← hy0] at hx
  have hx0 : W2.cell? ⟨ub, uo, none⟩ = some (.int .u64 (y0 : Int)) := hx
  have HQ := Lib.hid (show ((pz : Int) == (y0 : Int)) = z by
    rw [HZ2.out, decide_eq_true t2, decide_eq_true t1, ← hy0]
    show _ = Nat.beq pz y0
    rw [Bool.eq_iff_iff, beq_iff_eq, Nat.beq_eq]
    omega)
  clear t1 t2 hx hy0 e h1 h2 h3
  have HC2 := Lib.hid (show ∀ W', Below W2.heap.size W2 W' → (W'.cell? ⟨w.heap.size, 0, none⟩ = some (.slice cA n cc) ∧ W'.cell? ⟨w.heap.size, 1, none⟩ = some (.int .i64 thr) ∧ W'.cell? ⟨w.heap.size, 2, none⟩ = some (.int .u64 (rng : Int)) ∧ W'.cell? ⟨w.heap.size, 3, none⟩ = some (.slice kA m kc) ∧ W'.cell? ⟨w.heap.size, 4, none⟩ = some (.slice rA nr rc) ∧ W'.cell? ⟨w.heap.size, 5, none⟩ = some (.slice oA no oc) ∧ W'.cell? ⟨w.heap.size, 6, none⟩ = some (.map (some bp)) ∧ W'.cell? ⟨w.heap.size, 7, none⟩ = some (.map (some bc)) ∧ W'.cell? ⟨w.heap.size, 8, none⟩ = some (.bool dz) ∧ W'.cell? ⟨B1, 0, none⟩ = some (.int .i64 rx) ∧ W'.cell? ⟨B1, 1, none⟩ = some (.int .u64 (ry : Int)) ∧ W'.cell? ⟨B2, 0, none⟩ = some (.int .i64 cx) ∧ W'.cell? ⟨B2, 1, none⟩ = some (.slice (some ⟨ub, uo, none⟩) ul uc) ∧ W'.cell? ⟨ub, uo, none⟩ = some (.int .u64 (y0 : Int))) from fun W' hh => by
    have e2 := (hh.block _ (lt_heap k2)).trans k2
    obtain ⟨c0_0, c0_1, c0_2, c0_3, c0_4, c0_5, c0_6, c0_7, c0_8, c1_0, c1_1⟩ := HC.out W' (hb2.trans (hh.mono hb2.size))
    exact ⟨c0_0, c0_1, c0_2, c0_3, c0_4, c0_5, c0_6, c0_7, c0_8, c1_0, c1_1, cell_of e2 rfl, cell_of e2 rfl, (hh.cell (p := ⟨ub, uo, none⟩) (Nat.lt_of_lt_of_le hul HBW.out.size)).trans hx0⟩)
  clear hW2 hb2 k2 hB2 hlk c0_0 c0_1 c0_2 c0_3 c0_4 c0_5 c0_6 c0_7 c0_8 c1_0 c1_1
  clear hx0 hul
  refine wp_region_held_drew (S := fun W9 => Below W2.heap.size W2 W9) (by kernel_rfl) (Below.drew (Below.refl _ _)) (fun hHeld => ?_)
  change wpAnyH _ _ _ _ _ 29 #[false, false, false, false, false, false, false, false, false, false, false, false, false, false, false, false, false, false, false, false, false, false, false, false, false, false, false, false, false] _ W2.drew
  refine takeD (i := 0) (d := some 15) (v := ?_) rfl rfl (by kernel_rfl) (by kernel_rfl) (by kernel_rfl) (fun _ _ _ h => h) (Or.inl ⟨by rfl, ?_⟩) hHeld ?_
  rotate_left 1
  focus (intro w hSw; (try dsimp only at hSw); go_simp; (try with_reducible rfl))
  (repeat (first | simp only [Act.put] | simp only [List.setIfInBounds_toArray] | simp only [List.set_cons_zero] | simp only [List.set_cons_succ]))
  refine takeD (i := 1) (d := some 16) (v := ?_) rfl rfl (by kernel_rfl) (by kernel_rfl) (by kernel_rfl) (fun _ _ _ h => h) (Or.inl ⟨by rfl, ?_⟩) hHeld ?_
  rotate_left 1
  focus (intro w hSw; (try dsimp only at hSw); go_simp; (try with_reducible rfl))
  (repeat (first | simp only [Act.put] | simp only [List.setIfInBounds_toArray] | simp only [List.set_cons_zero] | simp only [List.set_cons_succ]))
  refine takeD (i := 2) (d := some 17) (v := ?_) rfl rfl (by kernel_rfl) (by kernel_rfl) (by kernel_rfl) (fun _ _ _ h => h) (Or.inl ⟨by rfl, ?_⟩) hHeld ?_
  rotate_left 1
  focus (intro w hSw; (try dsimp only at hSw); obtain ⟨c0_0, c0_1, c0_2, c0_3, c0_4, c0_5, c0_6, c0_7, c0_8, c1_0, c1_1, c2_0, c2_1, x0⟩ := HC2.out w hSw; go_simp; (try with_reducible rfl))
  (repeat (first | simp only [Act.put] | simp only [List.setIfInBounds_toArray] | simp only [List.set_cons_zero] | simp only [List.set_cons_succ]))
  refine takeD (i := 3) (d := some 18) (v := ?_) rfl rfl (by kernel_rfl) (by kernel_rfl) (by kernel_rfl) (fun _ _ _ h => h) (Or.inl ⟨by rfl, ?_⟩) hHeld ?_
  rotate_left 1
  focus (intro w hSw; (try dsimp only at hSw); go_simp; (try with_reducible rfl))
  (repeat (first | simp only [Act.put] | simp only [List.setIfInBounds_toArray] | simp only [List.set_cons_zero] | simp only [List.set_cons_succ]))
  refine takeD (i := 4) (d := some 19) (v := ?_) rfl rfl (by kernel_rfl) (by kernel_rfl) (by kernel_rfl) (fun _ _ _ h => h) (Or.inl ⟨by rfl, ?_⟩) hHeld ?_
  rotate_left 1
  focus (intro w hSw; (try dsimp only at hSw); obtain ⟨c0_0, c0_1, c0_2, c0_3, c0_4, c0_5, c0_6, c0_7, c0_8, c1_0, c1_1, c2_0, c2_1, x0⟩ := HC2.out w hSw; go_simp; (try with_reducible rfl))
  (repeat (first | simp only [Act.put] | simp only [List.setIfInBounds_toArray] | simp only [List.set_cons_zero] | simp only [List.set_cons_succ]))
  refine wpAnyH_ready (rs := [5]) (by kernel_rfl) (by simp) ?_
  refine AllReadyH.cons rfl (fun K hK => ?_) AllReadyH.nil
  go_simp
  go_at_call 57
  refine ((D1.out _ (HBW.out.trans ((show Below W2.heap.size W2 _ from (by repeat (first | with_reducible exact Below.refl _ _ | with_reducible exact HB9.out | (with_reducible refine Below.drew ?_)))).mono HBW.out.size))).out).mono ?_
  rintro e w9 ⟨rfl, hb9⟩
  have HBn : Hid (Below W2.heap.size W2 w9) := Lib.hid ((show Below W2.heap.size W2 _ from (by repeat (first | with_reducible exact Below.refl _ _ | with_reducible exact HB9.out | (with_reducible refine Below.drew ?_)))).trans (hb9.mono (show W2.heap.size ≤ _ from (show Below W2.heap.size W2 _ from (by repeat (first | with_reducible exact Below.refl _ _ | with_reducible exact HB9.out | (with_reducible refine Below.drew ?_)))).size)))
  clear hb9
  have HB9 := HBn
  clear HBn
  refine hK.out _ _ (by repeat (first | with_reducible exact Below.refl _ _ | with_reducible exact HB9.out | (with_reducible refine Below.drew ?_))) (fun hHeld => ?_)
  clear hK K
  (repeat (first | simp only [Act.put] | simp only [List.setIfInBounds_toArray] | simp only [List.set_cons_zero] | simp only [List.set_cons_succ]))
  refine takeD (i := 6) (d := some 21) (v := ?_) rfl rfl (by kernel_rfl) (by kernel_rfl) (by kernel_rfl) (fun _ _ _ h => h) (Or.inl ⟨by rfl, ?_⟩) hHeld ?_
  rotate_left 1
  focus (intro w hSw; (try dsimp only at hSw); go_simp; (try with_reducible rfl))
  (repeat (first | simp only [Act.put] | simp only [List.setIfInBounds_toArray] | simp only [List.set_cons_zero] | simp only [List.set_cons_succ]))
  refine takeD (i := 7) (d := some 22) (v := ?_) rfl rfl (by kernel_rfl) (by kernel_rfl) (by kernel_rfl) (fun _ _ _ h => h) (Or.inl ⟨by rfl, ?_⟩) hHeld ?_
  rotate_left 1
  focus (intro w hSw; (try dsimp only at hSw); go_simp; (try with_reducible rfl))
  (repeat (first | simp only [Act.put] | simp only [List.setIfInBounds_toArray] | simp only [List.set_cons_zero] | simp only [List.set_cons_succ]))
  refine takeD (i := 8) (d := some 23) (v := ?_) rfl rfl (by kernel_rfl) (by kernel_rfl) (by kernel_rfl) (fun _ _ _ h => h) (Or.inl ⟨by rfl, ?_⟩) hHeld ?_
  rotate_left 1
  focus (intro w hSw; (try dsimp only at hSw); go_simp; (try with_reducible rfl))
  (repeat (first | simp only [Act.put] | simp only [List.setIfInBounds_toArray] | simp only [List.set_cons_zero] | simp only [List.set_cons_succ]))
  refine takeD (i := 9) (d := some 24) (v := ?_) rfl rfl (by kernel_rfl) (by kernel_rfl) (by kernel_rfl) (fun _ _ _ h => h) (Or.inl ⟨by rfl, ?_⟩) hHeld ?_
  rotate_left 1
  focus (intro w hSw; (try dsimp only at hSw); obtain ⟨c0_0, c0_1, c0_2, c0_3, c0_4, c0_5, c0_6, c0_7, c0_8, c1_0, c1_1, c2_0, c2_1, x0⟩ := HC2.out w hSw; go_simp; (try with_reducible rfl))
  (repeat (first | simp only [Act.put] | simp only [List.setIfInBounds_toArray] | simp only [List.set_cons_zero] | simp only [List.set_cons_succ]))
  refine takeD (i := 10) (d := some 25) (v := ?_) rfl rfl (by kernel_rfl) (by kernel_rfl) (by kernel_rfl) (fun _ _ _ h => h) (Or.inl ⟨by rfl, ?_⟩) hHeld ?_
  rotate_left 1
  focus (intro w hSw; (try dsimp only at hSw); go_simp; (try with_reducible rfl))
  (repeat (first | simp only [Act.put] | simp only [List.setIfInBounds_toArray] | simp only [List.set_cons_zero] | simp only [List.set_cons_succ]))
  refine takeD (i := 11) (d := some 26) (v := ?_) rfl rfl (by kernel_rfl) (by kernel_rfl) (by kernel_rfl) (fun _ _ _ h => h) (Or.inl ⟨by rfl, ?_⟩) hHeld ?_
  rotate_left 1
  focus (intro w hSw; (try dsimp only at hSw); go_simp; (try with_reducible rfl))
  (repeat (first | simp only [Act.put] | simp only [List.setIfInBounds_toArray] | simp only [List.set_cons_zero] | simp only [List.set_cons_succ]))
  refine takeD (i := 12) (d := some 27) (v := ?_) rfl rfl (by kernel_rfl) (by kernel_rfl) (by kernel_rfl) (fun _ _ _ h => h) (Or.inl ⟨by rfl, ?_⟩) hHeld ?_
  rotate_left 1
  focus (intro w hSw; (try dsimp only at hSw); go_simp; (try with_reducible rfl))
  (repeat (first | simp only [Act.put] | simp only [List.setIfInBounds_toArray] | simp only [List.set_cons_zero] | simp only [List.set_cons_succ]))
  refine takeD (i := 13) (d := some 28) (v := ?_) rfl rfl (by kernel_rfl) (by kernel_rfl) (by kernel_rfl) (fun _ _ _ h => h) (Or.inl ⟨by rfl, ?_⟩) hHeld ?_
  rotate_left 1
  focus (intro w hSw; (try dsimp only at hSw); go_simp; (try with_reducible rfl))
  (repeat (first | simp only [Act.put] | simp only [List.setIfInBounds_toArray] | simp only [List.set_cons_zero] | simp only [List.set_cons_succ]))
  refine takeD (i := 14) (d := some 29) (v := ?_) rfl rfl (by kernel_rfl) (by kernel_rfl) (by kernel_rfl) (fun _ _ _ h => h) (Or.inl ⟨by rfl, ?_⟩) hHeld ?_
  rotate_left 1
  focus (intro w hSw; (try dsimp only at hSw); obtain ⟨c0_0, c0_1, c0_2, c0_3, c0_4, c0_5, c0_6, c0_7, c0_8, c1_0, c1_1, c2_0, c2_1, x0⟩ := HC2.out w hSw; go_simp; (try with_reducible rfl))
  (repeat (first | simp only [Act.put] | simp only [List.setIfInBounds_toArray] | simp only [List.set_cons_zero] | simp only [List.set_cons_succ]))
  refine takeD (i := 15) (d := some 30) (v := ?_) rfl rfl (by kernel_rfl) (by kernel_rfl) (by kernel_rfl) (fun _ _ _ h => h) (Or.inl ⟨by rfl, ?_⟩) hHeld ?_
  rotate_left 1
  focus (intro w hSw; (try dsimp only at hSw); go_simp; (try with_reducible rfl))
  (repeat (first | simp only [Act.put] | simp only [List.setIfInBounds_toArray] | simp only [List.set_cons_zero] | simp only [List.set_cons_succ]))
  refine takeD (i := 16) (d := some 31) (v := ?_) rfl rfl (by kernel_rfl) (by kernel_rfl) (by kernel_rfl) (fun _ _ _ h => h) (Or.inl ⟨by rfl, ?_⟩) hHeld ?_
  rotate_left 1
  focus (intro w hSw; (try dsimp only at hSw); go_simp; (try with_reducible rfl))
  (repeat (first | simp only [Act.put] | simp only [List.setIfInBounds_toArray] | simp only [List.set_cons_zero] | simp only [List.set_cons_succ]))
  refine takeD (i := 17) (d := some 32) (v := ?_) rfl rfl (by kernel_rfl) (by kernel_rfl) (by kernel_rfl) (fun _ _ _ h => h) (Or.inl ⟨by rfl, ?_⟩) hHeld ?_
  rotate_left 1
  focus (intro w hSw; (try dsimp only at hSw); go_simp; (try with_reducible rfl))
  (repeat (first | simp only [Act.put] | simp only [List.setIfInBounds_toArray] | simp only [List.set_cons_zero] | simp only [List.set_cons_succ]))
  refine takeD (i := 18) (d := some 33) (v := ?_) rfl rfl (by kernel_rfl) (by kernel_rfl) (by kernel_rfl) (fun _ _ _ h => h) (Or.inl ⟨by rfl, ?_⟩) hHeld ?_
  rotate_left 1
  focus (intro w hSw; (try dsimp only at hSw); go_simp; (try with_reducible rfl))
  (repeat (first | simp only [Act.put] | simp only [List.setIfInBounds_toArray] | simp only [List.set_cons_zero] | simp only [List.set_cons_succ]))
  refine takeD (i := 19) (d := some 34) (v := ?_) rfl rfl (by kernel_rfl) (by kernel_rfl) (by kernel_rfl) (fun _ _ _ h => h) (Or.inl ⟨by rfl, ?_⟩) hHeld ?_
  rotate_left 1
  focus (intro w hSw; (try dsimp only at hSw); go_simp; (try with_reducible rfl))
  (repeat (first | simp only [Act.put] | simp only [List.setIfInBounds_toArray] | simp only [List.set_cons_zero] | simp only [List.set_cons_succ]))
  refine takeD (i := 20) (d := some 35) (v := ?_) rfl rfl (by kernel_rfl) (by kernel_rfl) (by kernel_rfl) (fun _ _ _ h => h) (Or.inl ⟨by rfl, ?_⟩) hHeld ?_
  rotate_left 1
  focus (intro w hSw; (try dsimp only at hSw); obtain ⟨c0_0, c0_1, c0_2, c0_3, c0_4, c0_5, c0_6, c0_7, c0_8, c1_0, c1_1, c2_0, c2_1, x0⟩ := HC2.out w hSw; go_simp; (try with_reducible rfl))
  (repeat (first | simp only [Act.put] | simp only [List.setIfInBounds_toArray] | simp only [List.set_cons_zero] | simp only [List.set_cons_succ]))
  refine takeD (i := 22) (d := some 37) (v := ?_) rfl rfl (by kernel_rfl) (by kernel_rfl) (by kernel_rfl) (fun _ _ _ h => h) (Or.inl ⟨by rfl, ?_⟩) hHeld ?_
  rotate_left 1
  focus (intro w hSw; (try dsimp only at hSw); go_simp; (try with_reducible rfl))
  (repeat (first | simp only [Act.put] | simp only [List.setIfInBounds_toArray] | simp only [List.set_cons_zero] | simp only [List.set_cons_succ]))
  refine takeD (i := 23) (d := some 38) (v := ?_) rfl rfl (by kernel_rfl) (by kernel_rfl) (by kernel_rfl) (fun _ _ _ h => h) (Or.inl ⟨by rfl, ?_⟩) hHeld ?_
  rotate_left 1
  focus (intro w hSw; (try dsimp only at hSw); obtain ⟨c0_0, c0_1, c0_2, c0_3, c0_4, c0_5, c0_6, c0_7, c0_8, c1_0, c1_1, c2_0, c2_1, x0⟩ := HC2.out w hSw; go_simp; (try with_reducible rfl))
  (repeat (first | simp only [Act.put] | simp only [List.setIfInBounds_toArray] | simp only [List.set_cons_zero] | simp only [List.set_cons_succ]))
  refine takeD (i := 24) (d := some 39) (v := ?_) rfl rfl (by kernel_rfl) (by kernel_rfl) (by kernel_rfl) (fun _ _ _ h => h) (Or.inl ⟨by rfl, ?_⟩) hHeld ?_
  rotate_left 1
  focus (intro w hSw; (try dsimp only at hSw); go_simp; (try with_reducible rfl))
  (repeat (first | simp only [Act.put] | simp only [List.setIfInBounds_toArray] | simp only [List.set_cons_zero] | simp only [List.set_cons_succ]))
  refine takeD (i := 25) (d := some 40) (v := ?_) rfl rfl (by kernel_rfl) (by kernel_rfl) (by kernel_rfl) (fun _ _ _ h => h) (Or.inl ⟨by rfl, ?_⟩) hHeld ?_
  rotate_left 1
  focus (intro w hSw; (try dsimp only at hSw); obtain ⟨c0_0, c0_1, c0_2, c0_3, c0_4, c0_5, c0_6, c0_7, c0_8, c1_0, c1_1, c2_0, c2_1, x0⟩ := HC2.out w hSw; go_simp; (try with_reducible rfl))
  (repeat (first | simp only [Act.put] | simp only [List.setIfInBounds_toArray] | simp only [List.set_cons_zero] | simp only [List.set_cons_succ]))
  refine wpAnyH_ready (rs := [21]) (by kernel_rfl) (by simp) ?_
  refine AllReadyH.cons rfl (fun K hK => ?_) AllReadyH.nil
  go_simp
  go_at_call 52
  refine ((D2.out _).out).mono ?_
  rintro e w9 ⟨rfl, hb9⟩
  have HBn : Hid (Below W2.heap.size W2 w9) := Lib.hid ((show Below W2.heap.size W2 _ from (by repeat (first | with_reducible exact Below.refl _ _ | with_reducible exact HB9.out | (with_reducible refine Below.drew ?_)))).trans (hb9.mono (show W2.heap.size ≤ _ from (show Below W2.heap.size W2 _ from (by repeat (first | with_reducible exact Below.refl _ _ | with_reducible exact HB9.out | (with_reducible refine Below.drew ?_)))).size)))
  clear hb9 HB9
  have HB9 := HBn
  clear HBn
  refine hK.out _ _ (by repeat (first | with_reducible exact Below.refl _ _ | with_reducible exact HB9.out | (with_reducible refine Below.drew ?_))) (fun hHeld => ?_)
  clear hK K
  (repeat (first | simp only [Act.put] | simp only [List.setIfInBounds_toArray] | simp only [List.set_cons_zero] | simp only [List.set_cons_succ]))
  refine takeD (i := 26) (d := some 41) (v := ?_) rfl rfl (by kernel_rfl) (by kernel_rfl) (by kernel_rfl) (fun _ _ _ h => h) (Or.inl ⟨by rfl, ?_⟩) hHeld ?_
  rotate_left 1
  focus (intro w hSw; (try dsimp only at hSw); go_simp; (try with_reducible rfl))
  (repeat (first | simp only [Act.put] | simp only [List.setIfInBounds_toArray] | simp only [List.set_cons_zero] | simp only [List.set_cons_succ]))
  refine takeD (i := 27) (d := some 42) (v := ?_) rfl rfl (by kernel_rfl) (by kernel_rfl) (by kernel_rfl) (fun _ _ _ h => h) (Or.inl ⟨by rfl, ?_⟩) hHeld ?_
  rotate_left 1
  focus (intro w hSw; (try dsimp only at hSw); go_simp; (try with_reducible rfl))
  (repeat (first | simp only [Act.put] | simp only [List.setIfInBounds_toArray] | simp only [List.set_cons_zero] | simp only [List.set_cons_succ]))
  refine takeD (i := 28) (d := some 4) (v := ?_) rfl rfl (by kernel_rfl) (by kernel_rfl) (by kernel_rfl) (fun _ _ _ h => h) (Or.inl ⟨by rfl, ?_⟩) hHeld ?_
  rotate_left 1
  focus (intro w hSw; (try dsimp only at hSw); go_simp; (try with_reducible rfl))
  (repeat (first | simp only [Act.put] | simp only [List.setIfInBounds_toArray] | simp only [List.set_cons_zero] | simp only [List.set_cons_succ]))
  refine wpAnyH_done (by kernel_rfl) ?_ _
  go_wp2_with fail
  go_ret
  exact ⟨ret_bool HQ.out, HBW.out.trans ((show Below W2.heap.size W2 _ from (by repeat (first | with_reducible exact Below.refl _ _ | with_reducible exact HB9.out | (with_reducible refine Below.drew ?_)))).mono HBW.out.size)⟩
end Go.Proofs.Ytgaanndidcdbpaa
