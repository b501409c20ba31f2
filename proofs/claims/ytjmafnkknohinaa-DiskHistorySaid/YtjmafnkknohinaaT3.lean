import Derived.Test.YtjmafnkknohinaaT2
namespace Go.Proofs.Ytjmafnkknohinaa
open Go.RowKit Go.Shelf

theorem range_any {α : Type} (q : α → Bool) (z : α) (l : List α) : (List.range l.length).any (fun i => !(q (l.getD i z))) = !(l.all q) := by
  rw [Bool.eq_iff_iff]
  simp only [List.any_eq_true, List.mem_range, Bool.not_eq_true', List.all_eq_false]
  constructor
  · rintro ⟨i, hi, h⟩
    refine ⟨l.getD i z, ?_, by rw [h]; simp⟩
    simp [List.getD_eq_getElem?_getD, hi]
  · rintro ⟨x, hx, h⟩
    obtain ⟨i, hi, rfl⟩ := List.getElem_of_mem hx
    exact ⟨i, hi, by simpa [List.getD_eq_getElem?_getD, hi] using h⟩

theorem Cells.below {w w' : World} {M : Nat → Prop} {sz n : Nat} {A : Option Addr} {f : Nat → Nat → Value} (h : Cells w M sz A n f) (hb : Below w.heap.size w w') : Cells w' M sz A n f := h.keep fun _ _ hp => hb.cell hp

set_option maxHeartbeats 400000 in
theorem check_head (w : World) (M : Nat → Prop) (d : DiskD) (v : Value) (h : IsDisk w M v d) (hh : headOk d = true) :
    Calls Try.prog 15 #[v] w fun e w' => e = .returned (.int .i64 (chk d)) ∧ Below w.heap.size w w' := by
  obtain ⟨sA, sc, pA, pc, rfl, hs1, hs2, ⟨vs, hs3, hs4⟩, hp1, hp2, ⟨ws, hp3, hp4⟩⟩ := h.parts
  have HH := Lib.hid hh
  simp only [headOk, Bool.and_eq_true, decide_eq_true_eq] at hh
  obtain ⟨⟨⟨⟨g1, g2⟩, g3⟩, g4⟩, g5⟩ := hh
  obtain ⟨W1, hW1⟩ : ∃ W1, W1 = (w.alloc (.cells #[.slice sA d.sectors.length sc, .slice pA d.pending.length pc, .int .i64 d.left, .bool d.stopped] 25)).alloc (.cells #[.int .i64 d.sectors.length] 3) := ⟨_, rfl⟩
  have hB1 : Below w.heap.size w W1 := by rw [hW1]; exact ((Below.refl w.heap.size w).alloc (Nat.le_refl _) _).alloc (by simp) _
  have hcn : W1.cell? ⟨w.heap.size + 1, 0, none⟩ = some (.int .i64 d.sectors.length) := by rw [hW1]; simp
  have hz : W1.heap.size = w.heap.size + 2 := by rw [hW1]; simp
  have e29 : Enters Try.prog 29 := enters_of Try.func29 (by kernel_rfl) rfl
  have e33 : Enters Try.prog 33 := enters_of Try.func33 (by kernel_rfl) rfl
  have C1 := Lib.hid (containsFunc2_any W1 M pA d.pending.length pc _ (by omega) (hp3.below hB1) 29 #[.pointer (some ⟨w.heap.size + 1, 0, none⟩)] (fun i => !(penOk d.sectors.length (d.pending.getD i w0))) e29 (by
    intro i hi wr hwr
    obtain ⟨bA, bc, e, _, _, _⟩ := hp4 i hi
    simp only [if_true, e, Nat.succ_ne_zero, if_false]
    exact (check1_any wr bA _ _ bc d.sectors.length (w.heap.size + 1) ((hwr.cell (p := ⟨w.heap.size + 1, 0, none⟩) (by simp; omega)).trans hcn)).mono fun e w' h => h))
  have C2 := fun (W2 : World) (hW : Below W1.heap.size W1 W2) => Lib.hid (containsFunc1_any W2 M sA d.sectors.length sc (fun i _ => vs i) (by omega) ((hs3.below hB1).below hW) (fun i hi => by obtain ⟨bA, bc, e, _⟩ := hs4 i hi; exact ⟨_, _, _, e⟩) 33 (fun i => !(secOk (d.sectors.getD i []))) e33 (by
    intro i hi wr hwr
    obtain ⟨bA, bc, e, _, _, _⟩ := hs4 i hi
    simp only [e]
    refine (check2_any wr bA _ bc).mono fun e w' h => ⟨h.1.trans (ret_bool ?_), h.2 ▸ Below.refl _ _⟩
    simp only [secOk]; congr 1; rw [Bool.eq_iff_iff]; simp; omega))
  rw [range_any] at C1
  have C2' := C2
  clear C2
  have HB1 := Lib.hid hB1
  have HW1 := Lib.hid hW1
  have HZ := Lib.hid hz
  have HCN := Lib.hid hcn
  clear hB1 hz hcn hs3 hs4 hp3 hp4 e29 e33 h
  have K := Lib.hid C2'
  clear C2'
  go_enter Try.func15, Try.ntmps15
  go_wp2_with fail
  rw [← HW1.out]
  refine C1.out.mono ?_
  rintro e w1 ⟨rfl, hb1⟩
  have K1 := K.out w1 hb1
  rw [range_any] at K1
  have c0 := hb1.cell (p := ⟨w.heap.size, 0, none⟩) (by have := HZ.out; simp; omega)
  rw [HW1.out] at c0
  simp at c0
  by_cases ha : d.pending.all (penOk d.sectors.length) = true
  · rw [ha]
    go_wp2_with fail
    refine K1.out.mono ?_
    rintro e w2 ⟨rfl, hb2⟩
    by_cases hs : d.sectors.all secOk = true
    · rw [hs]
      have HR : Hid (chk d = 0) := by simp [Hid, chk, okB, ha, hs, HH.out]
      clear ha hs
      go_wp2_with fail
      go_ret
      exact ⟨ret_int HR.out.symm, HB1.out.trans ((hb1.trans (hb2.mono hb1.size)).mono HB1.out.size)⟩
    · have hs' : d.sectors.all secOk = false := by simpa using hs
      rw [hs']
      have HR : Hid (chk d = 340) := by simp [Hid, chk, okB, hs']
      clear ha hs hs'
      go_wp2_with fail
      go_ret
      exact ⟨ret_int HR.out.symm, HB1.out.trans ((hb1.trans (hb2.mono hb1.size)).mono HB1.out.size)⟩
  · have ha' : d.pending.all (penOk d.sectors.length) = false := by simpa using ha
    rw [ha']
    have HR : Hid (chk d = 340) := by simp [Hid, chk, okB, ha']
    clear ha ha'
    go_wp2_with fail
    go_ret
    exact ⟨ret_int HR.out.symm, HB1.out.trans (hb1.mono HB1.out.size)⟩

set_option maxHeartbeats 400000 in
theorem check_nohead (w : World) (M : Nat → Prop) (d : DiskD) (v : Value) (h : IsDisk w M v d) (hh : headOk d = false) :
    Calls Try.prog 15 #[v] w fun e w' => e = .returned (.int .i64 (chk d)) ∧ Below w.heap.size w w' := by
  obtain ⟨sA, sc, pA, pc, rfl, hs1, hs2, _, hp1, hp2, _⟩ := h.parts
  have HC := Lib.hid (chk_head hh)
  have hh' : ¬ headOk d = true := by simp [hh]
  simp only [headOk, Bool.and_eq_true, decide_eq_true_eq] at hh'
  clear hh h
  have hc : d.sectors.length < 1 ∨ (1 ≤ d.sectors.length ∧ 4096 < d.sectors.length) ∨ (1 ≤ d.sectors.length ∧ d.sectors.length ≤ 4096 ∧ 4096 < d.pending.length) ∨
    (1 ≤ d.sectors.length ∧ d.sectors.length ≤ 4096 ∧ d.pending.length ≤ 4096 ∧ d.left < -1) ∨ (1 ≤ d.sectors.length ∧ d.sectors.length ≤ 4096 ∧ d.pending.length ≤ 4096 ∧ -1 ≤ d.left ∧ 65536 < d.left) := by omega
  clear hh'
  rcases hc with q | ⟨q1, q⟩ | ⟨q1, q2, q⟩ | ⟨q1, q2, q3, q⟩ | ⟨q1, q2, q3, q4, q⟩
  all_goals
    go_enter Try.func15, Try.ntmps15
    go_wp2_with fail
    go_ret
    exact ⟨ret_int HC.out.symm, ((Below.refl w.heap.size w).alloc (Nat.le_refl _) _).alloc (by simp) _⟩
theorem check_any (w : World) (M : Nat → Prop) (d : DiskD) (v : Value) (h : IsDisk w M v d) :
    Calls Try.prog 15 #[v] w fun e w' => e = .returned (.int .i64 (chk d)) ∧ Below w.heap.size w w' := by
  by_cases hh : headOk d = true
  · exact check_head w M d v h hh
  · exact check_nohead w M d v h (by simpa using hh)
end Go.Proofs.Ytjmafnkknohinaa
