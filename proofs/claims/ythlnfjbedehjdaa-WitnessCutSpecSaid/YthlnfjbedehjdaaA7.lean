/- Small functions of a race. -/
import Derived.Test.YthlnfjbedehjdaaA6
namespace Go.Proofs.Ythlnfjbedehjdaa
open Go.RowKit Go.Shelf

def halvesB (q : RaceD) : Bool := decide (0 < q.draw) && decide (q.win = 2 * q.draw)
theorem halves_any (w : World) (M : Nat → Prop) (v : Value) (q : RaceD) (h : IsRace w M v q) (h1 : 0 ≤ q.draw ∧ q.draw ≤ 999) : Calls Try.prog 50 #[v] w fun e w' => e = .returned (.bool (halvesB q)) ∧ Below w.heap.size w w' := by
  obtain ⟨cA, cc, pA, pc, oA, oc, rfl, -⟩ := h.parts
  clear h
  unfold halvesB
  obtain ⟨d, hd⟩ : ∃ d, d = q.draw := ⟨_, rfl⟩
  obtain ⟨m, hm⟩ : ∃ m, m = q.win := ⟨_, rfl⟩
  rw [← hd, ← hm]
  rw [← hd] at h1
  clear hd hm
  obtain ⟨h0, h9⟩ := h1
  go_enter Try.func50, Try.ntmps50
  by_cases t : 0 < d
  · have d1 : decide (0 < d) = true := decide_eq_true t
    by_cases t2 : m = 2 * d
    · have d2 : (m == 2 * d) = true := by simpa using t2
      have e2 : decide (m = 2 * d) = true := decide_eq_true t2
      have E := Lib.hid (And.intro d1 e2)
      clear t2 e2
      go_wp2_with fail
      go_ret
      exact ⟨by first | rfl | (rw [E.out.1, E.out.2]; rfl) | (rw [E.out.2]; rfl), (Below.refl _ _).alloc (Nat.le_refl _) _⟩
    · have d2 : (m == 2 * d) = false := by simpa using t2
      have e2 : decide (m = 2 * d) = false := decide_eq_false t2
      have E := Lib.hid (And.intro d1 e2)
      clear t2 e2
      go_wp2_with fail
      go_ret
      exact ⟨by first | rfl | (rw [E.out.1, E.out.2]; rfl) | (rw [E.out.2]; rfl), (Below.refl _ _).alloc (Nat.le_refl _) _⟩
  · have d1 : decide (0 < d) = false := decide_eq_false t
    have E := Lib.hid d1
    go_wp2_with fail
    go_ret
    exact ⟨by first | rfl | (rw [E.out]; rfl), (Below.refl _ _).alloc (Nat.le_refl _) _⟩
def sizeK (q : RaceD) (certain : Bool) : Int := if certain then q.place else q.place - 1
theorem size_any (w : World) (M : Nat → Prop) (v : Value) (q : RaceD) (h : IsRace w M v q) (b : Bool) (h1 : 1 ≤ q.place ∧ q.place ≤ 24) : Calls Try.prog 52 #[v, .bool b] w fun e w' => e = .returned (.int .i64 (sizeK q b)) ∧ Below w.heap.size w w' := by
  obtain ⟨cA, cc, pA, pc, oA, oc, rfl, -⟩ := h.parts
  clear h
  unfold sizeK
  obtain ⟨p, hp⟩ : ∃ p, p = q.place := ⟨_, rfl⟩
  rw [← hp]
  rw [← hp] at h1
  clear hp
  obtain ⟨h0, h9⟩ := h1
  go_enter Try.func52, Try.ntmps52
  cases b
  · go_wp2_with fail
    go_ret
    exact ⟨rfl, (Below.refl _ _).alloc (Nat.le_refl _) _⟩
  · go_wp2_with fail
    go_ret
    exact ⟨rfl, (Below.refl _ _).alloc (Nat.le_refl _) _⟩
end Go.Proofs.Ythlnfjbedehjdaa
