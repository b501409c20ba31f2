import Derived.Test.YtpcodholllaceaaE1
namespace Go.Proofs.Ytpcodholllaceaa
open Go.RowKit Go.Shelf

theorem not_any_not (ok : Nat → Bool) (l : List Nat) : (!(l.any fun x => !ok x)) = l.all ok := by
  induction l with
  | nil => rfl
  | cons a r ih => simp only [List.any_cons, List.all_cons, Bool.not_or, Bool.not_not, ih]
theorem all_any {g : FuncId} {ok : Nat → Bool} (hg : Asks g ok) (w : World) (M : Nat → Prop) (v : Value) (xs : List Nat) (h : IsU64 w M v xs) :
    Calls Try.prog 28 #[v, .func (.func g) #[] #[]] w fun e w' => e = .returned (.bool (allD ok xs)) ∧ Below w.heap.size w w' := by
  obtain ⟨A, c, rfl, h1, h2, h3⟩ := h
  by_cases hn : 1 ≤ xs.length ∧ xs.length ≤ 24
  · obtain ⟨W1, hW1⟩ : ∃ W1, W1 = w.alloc (.cells #[.func (.func g) #[] #[]] 49) := ⟨_, rfl⟩
    have hB1 : Below w.heap.size w W1 := by rw [hW1]; exact (Below.refl w.heap.size w).alloc (Nat.le_refl _) _
    have hc1 : W1.cell? ⟨w.heap.size, 0, none⟩ = some (.func (.func g) #[] #[]) := by rw [hW1]; simp
    have hz : W1.heap.size = w.heap.size + 1 := by rw [hW1]; simp
    have C1 := Lib.hid (containsFunc1_any W1 M A xs.length c _ (by omega) (h3.keep fun _ _ hp => hB1.cell hp) (fun i _ => ⟨_, rfl⟩) 50 #[.pointer (some ⟨w.heap.size, 0, none⟩)] (fun i => !ok (xs.getD i 0)) (enters_of Try.func50 (by kernel_rfl) rfl) (by
      intro i hi wr hwr
      exact all1_any hg (xs.getD i 0) w.heap.size wr ((hwr.cell (p := ⟨w.heap.size, 0, none⟩) (by simp; omega)).trans hc1)))
    rw [range_any xs 0 (fun x => !ok x)] at C1
    have he : allD ok xs = !(xs.any fun x => !ok x) := by
      rw [not_any_not]; unfold allD lenOk; rw [decide_eq_true hn.1, decide_eq_true hn.2]; rfl
    rw [he]
    have HB1 := Lib.hid hB1
    have HW1 := Lib.hid hW1
    have b1 : (1 : Int) ≤ (xs.length : Int) := by omega
    have b2 : (xs.length : Int) ≤ 24 := by omega
    clear hB1 hc1 hz hW1 he h3 hg hn
    go_enter Try.func28, Try.ntmps28
    go_wp2_with fail
    rw [← HW1.out]
    refine C1.out.mono ?_
    rintro e w1 ⟨rfl, hb1⟩
    go_wp2_with fail
    go_ret
    exact ⟨rfl, HB1.out.trans (hb1.mono HB1.out.size)⟩
  · have he : allD ok xs = false := by
      unfold allD lenOk
      rcases Nat.lt_or_ge xs.length 1 with h4 | h4
      · rw [decide_eq_false (by omega)]; rfl
      · rw [decide_eq_false (p := xs.length ≤ 24) (by omega), Bool.and_false]; rfl
    rw [he]
    clear he h3 hg
    by_cases h4 : 1 ≤ xs.length
    · have b1 : (1 : Int) ≤ (xs.length : Int) := by omega
      have b2 : ¬ (xs.length : Int) ≤ 24 := by omega
      clear hn
      go_enter Try.func28, Try.ntmps28
      go_wp2_with fail
      go_ret
      exact ⟨rfl, (Below.refl _ _).alloc (Nat.le_refl _) _⟩
    · have b1 : ¬ (1 : Int) ≤ (xs.length : Int) := by omega
      clear hn
      go_enter Try.func28, Try.ntmps28
      go_wp2_with fail
      go_ret
      exact ⟨rfl, (Below.refl _ _).alloc (Nat.le_refl _) _⟩
end Go.Proofs.Ytpcodholllaceaa
