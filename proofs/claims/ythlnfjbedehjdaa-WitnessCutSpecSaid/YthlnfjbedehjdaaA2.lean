/- The closures of witness.check. -/
import Derived.Test.YthlnfjbedehjdaaA1
namespace Go.Proofs.Ythlnfjbedehjdaa
open Go.RowKit Go.Shelf

theorem inR_any (w : World) (b : Nat) (n x : Int) (h : w.cell? ⟨b, 0, none⟩ = some (.int .i64 n)) :
    Calls Try.prog 47 #[.int .i64 x, .pointer (some ⟨b, 0, none⟩)] w fun e w' => e = .returned (.bool (decide (0 ≤ x) && decide (x < n))) ∧ w = w' := by
  go_enter Try.func47, Try.ntmps47
  by_cases h1 : 0 ≤ x
  · by_cases h2 : x < n
    · have d1 : decide (0 ≤ x) = true := decide_eq_true h1
      have d2 : decide (x < n) = true := decide_eq_true h2
      go_wp2_with fail
      go_ret
      exact ⟨by first | rfl | (rw [d1, d2]; rfl), rfl⟩
    · have d1 : decide (0 ≤ x) = true := decide_eq_true h1
      have d2 : decide (x < n) = false := decide_eq_false h2
      go_wp2_with fail
      go_ret
      exact ⟨by first | rfl | (rw [d1, d2]; rfl), rfl⟩
  · have d1 : decide (0 ≤ x) = false := decide_eq_false h1
    go_wp2_with fail
    go_ret
    exact ⟨by first | rfl | (rw [d1]; rfl), rfl⟩
theorem edge_any (w : World) (b4 b7 : Nat) (n : Nat) (e : Int × Int) (h4 : w.cell? ⟨b4, 0, none⟩ = some (.int .i64 (n : Int))) (h7 : w.cell? ⟨b7, 0, none⟩ = some (.func (.func 47) #[] #[.pointer (some ⟨b4, 0, none⟩)])) (hb4 : b4 < w.heap.size) (hb7 : b7 < w.heap.size) :
    Calls Try.prog 49 #[.agg #[.int .i64 e.1, .int .i64 e.2], .pointer (some ⟨b7, 0, none⟩)] w fun r w' => r = .returned (.bool (!edgeB n e)) ∧ Below w.heap.size w w' := by
  obtain ⟨x, y⟩ := e
  have CI := fun (W : World) (hB : Below w.heap.size w W) z => Lib.hid (inR_any W b4 n z ((hB.cell (p := ⟨b4, 0, none⟩) hb4).trans h4))
  have hE : edgeB n (x, y) = ((decide (0 ≤ x) && decide (x < (n : Int))) && ((decide (0 ≤ y) && decide (y < (n : Int))) && !(x == y))) := by
    unfold edgeB EdgeR
    rw [Bool.eq_iff_iff]
    simp only [decide_eq_true_eq, Bool.and_eq_true, Bool.not_eq_true', beq_eq_false_iff_ne]
    exact decide_eq_true_iff
  rw [hE]
  obtain ⟨p, hp⟩ : ∃ p, p = (decide (0 ≤ x) && decide (x < (n : Int))) := ⟨_, rfl⟩
  obtain ⟨q, hq⟩ : ∃ q, q = (decide (0 ≤ y) && decide (y < (n : Int))) := ⟨_, rfl⟩
  have C1 := fun W hB => (CI W hB x)
  have C2 := fun W hB => (CI W hB y)
  rw [← hp] at C1 ⊢
  rw [← hq] at C2 ⊢
  obtain ⟨r, hr⟩ : ∃ r, r = (x == y) := ⟨_, rfl⟩
  have HR := Lib.hid hr
  clear hE CI hp hq hr
  go_enter Try.func49, Try.ntmps49
  go_wp2_with fail
  refine nameW fun W1 hW1 => ?_
  have hb1 : Below w.heap.size w W1 := by rw [hW1.out]; exact (Below.refl _ _).alloc (Nat.le_refl _) _
  have hx1 : W1.heap[w.heap.size]? = some (.cells #[.int .i64 x, .int .i64 y] 53 (0, 0)) := by rw [hW1.out]; exact heap_alloc_new _ _
  have h7' := (hb1.cell (p := ⟨b7, 0, none⟩) hb7).trans h7
  have c0 := cell_of (j := 0) hx1 rfl
  have c1 := cell_of (j := 1) hx1 rfl
  have HB1 := Lib.hid hb1
  have hr1 : (x == y) = r := HR.out.symm
  clear hW1 hx1 hb1
  refine (C1 W1 HB1.out).out.mono ?_
  rintro e w' ⟨rfl, rfl⟩
  cases p
  · go_wp2_with fail
    go_ret
    exact ⟨rfl, HB1.out⟩
  go_wp2_with fail
  refine (C2 W1 HB1.out).out.mono ?_
  rintro e w' ⟨rfl, rfl⟩
  cases q
  · go_wp2_with fail
    go_ret
    exact ⟨rfl, HB1.out⟩
  cases r
  · go_wp2_with fail
    go_ret
    exact ⟨by rw [hr1]; rfl, HB1.out⟩
  · go_wp2_with fail
    go_ret
    exact ⟨by rw [hr1]; rfl, HB1.out⟩
end Go.Proofs.Ythlnfjbedehjdaa
