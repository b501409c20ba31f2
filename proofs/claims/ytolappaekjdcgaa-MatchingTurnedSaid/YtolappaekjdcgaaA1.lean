/- The order of edges: cmp.Compare, cmp.Or, order. -/
import Derived.Test.YtolappaekjdcgaaL1
import Derived.Test.YtolappaekjdcgaaAp
import Derived.Deep.RegionHeld3
namespace Go.Proofs.Ytolappaekjdcgaa
open Go.RowKit
/-- comparison of ints -/
def cmpI (x y : Int) : Int := if x < y then -1 else if y < x then 1 else 0
theorem cmpI_lt {x y : Int} (h : x < y) : cmpI x y = -1 := if_pos h
theorem cmpI_gt {x y : Int} (h : y < x) : cmpI x y = 1 := by unfold cmpI; rw [if_neg (by omega), if_pos h]
theorem cmpI_eq (x : Int) : cmpI x x = 0 := by unfold cmpI; rw [if_neg (by omega), if_neg (by omega)]
/-- the first that is not 0 -/
def orI (a b : Int) : Int := if a = 0 then b else a
theorem ordE_cmp (a b : Int × Int) : ordE a b = orI (cmpI a.1 b.1) (cmpI a.2 b.2) := by
  unfold ordE orI cmpI
  repeat' split
  all_goals omega
theorem isNaN_any (w : World) (x : Int) : Calls Try.prog 38 #[.int .i64 x] w fun e w' => e = .returned (.bool false) ∧ w = w' := by
  have hx : (x != x) = false := by simp
  go_enter Try.func38, Try.ntmps38
  go_wp2_with fail
  go_ret
  exact ⟨rfl, rfl⟩
theorem compare_any (w : World) (x y : Int) : Calls Try.prog 33 #[.int .i64 x, .int .i64 y] w fun e w' => e = .returned (.int .i64 (cmpI x y)) ∧ w = w' := by
  have C := fun z => Lib.hid (isNaN_any w z)
  rcases Int.lt_trichotomy x y with h | h | h
  · have HE := Lib.hid (cmpI_lt h)
    go_enter Try.func33, Try.ntmps33
    go_wp2_with (with_reducible refine (C _).out.mono ?_; rintro e w' ⟨rfl, rfl⟩)
    go_ret
    exact ⟨ret_int HE.out.symm, rfl⟩
  · subst h
    have HE := Lib.hid (cmpI_eq x)
    have h1 : ¬ x < x := by omega
    go_enter Try.func33, Try.ntmps33
    go_wp2_with (with_reducible refine (C _).out.mono ?_; rintro e w' ⟨rfl, rfl⟩)
    go_ret
    exact ⟨ret_int HE.out.symm, rfl⟩
  · have HE := Lib.hid (cmpI_gt h)
    have h1 : ¬ x < y := by omega
    go_enter Try.func33, Try.ntmps33
    go_wp2_with (with_reducible refine (C _).out.mono ?_; rintro e w' ⟨rfl, rfl⟩)
    go_ret
    exact ⟨ret_int HE.out.symm, rfl⟩
theorem or_any (w : World) (g : Nat) (a b : Int) (h0 : w.cell? ⟨g, 0, none⟩ = some (.int .i64 a)) (h1 : w.cell? ⟨g, 1, none⟩ = some (.int .i64 b)) :
    Calls Try.prog 32 #[.slice (some ⟨g, 0, none⟩) 2 2] w fun e w' => e = .returned (.int .i64 (orI a b)) ∧ w = w' := by
  have HE : Hid (∀ z : Int, (a ≠ 0 → z = a) → (a = 0 → z = b) → z = orI a b) := Lib.hid fun z h1 h2 => by
    unfold orI
    split
    · next h => exact h2 h
    · next h => exact h1 h
  go_enter Try.func32, Try.ntmps32
  go_wp2_with fail
  go_loop [8] (fun t => ∃ k : Nat, t = .int .i64 k ∧ (k = 0 ∨ (k = 1 ∧ Hid (a = 0)) ∨ (k = 2 ∧ Hid (a = 0 ∧ b = 0)))) (fun t => 2 - (intOf t).toNat)
  case atStart => exact ⟨0, rfl, .inl rfl⟩
  case round =>
    obtain ⟨k, rfl, hk⟩ := hrel
    rcases hk with rfl | ⟨rfl, H⟩ | ⟨rfl, H⟩
    · by_cases ha : a = 0
      · have HA := Lib.hid ha
        have ht : (a != 0) = false := by simp [ha]
        clear ha
        go_wp2_with fail
        go_round
        case rel => exact ⟨1, rfl, .inr (.inl ⟨rfl, HA⟩)⟩
        case measure => simp [intOf]
      · have HA := Lib.hid (HE.out a (fun _ => rfl) (fun e => absurd e ha))
        have ht : (a != 0) = true := by simpa using ha
        clear ha
        go_wp2_with fail
        go_ret
        exact ⟨ret_int HA.out, rfl⟩
    · by_cases hb : b = 0
      · have HA := Lib.hid (And.intro H.out hb)
        have ht : (b != 0) = false := by simp [hb]
        clear hb
        go_wp2_with fail
        go_round
        case rel => exact ⟨2, rfl, .inr (.inr ⟨rfl, HA⟩)⟩
        case measure => simp [intOf]
      · have HA := Lib.hid (HE.out b (fun e => absurd H.out e) (fun _ => rfl))
        have ht : (b != 0) = true := by simpa using hb
        clear hb
        go_wp2_with fail
        go_ret
        exact ⟨ret_int HA.out, rfl⟩
    · have HA := Lib.hid (HE.out 0 (fun e => absurd H.out.1 e) (fun _ => H.out.2.symm))
      go_wp2_with fail
      go_ret
      exact ⟨ret_int HA.out, rfl⟩
theorem order_any (w : World) (a b : Int × Int) : Calls Try.prog 24 #[.agg #[.int .i64 a.1, .int .i64 a.2], .agg #[.int .i64 b.1, .int .i64 b.2]] w fun e w' => e = .returned (.int .i64 (ordE a b)) ∧ Below w.heap.size w w' := by
  obtain ⟨a1, a2⟩ := a
  obtain ⟨b1, b2⟩ := b
  rw [ordE_cmp]
  dsimp only
  obtain ⟨c1, hc1⟩ : ∃ c, c = cmpI a1 b1 := ⟨_, rfl⟩
  obtain ⟨c2, hc2⟩ : ∃ c, c = cmpI a2 b2 := ⟨_, rfl⟩
  have C1 := fun W => Lib.hid (compare_any W a1 b1)
  have C2 := fun W => Lib.hid (compare_any W a2 b2)
  rw [← hc1] at C1
  rw [← hc2] at C2
  rw [← hc1, ← hc2]
  clear hc1 hc2
  go_enter Try.func24, Try.ntmps24
  go_wp2_with fail
  go_region_held3 (fun w' => w'.cell? ⟨w.heap.size, 0, none⟩ = some (.int .i64 a1) ∧ w'.cell? ⟨w.heap.size, 1, none⟩ = some (.int .i64 a2) ∧ w'.cell? ⟨w.heap.size + 1, 0, none⟩ = some (.int .i64 b1) ∧ w'.cell? ⟨w.heap.size + 1, 1, none⟩ = some (.int .i64 b2)) (go_keep) (first | (go_at_call 33; (first | (with_reducible refine (C1 _).out.mono ?_) | (with_reducible refine (C2 _).out.mono ?_)); rintro e w' ⟨rfl, rfl⟩) | (go_at_call 32; refine (or_any _ _ c1 c2 ?_ ?_).mono ?_; (focus (refine cell_of (t := 3) (z := (0, 0)) (cs := #[.int .i64 c1, .int .i64 c2]) ?_ rfl; show (World.alloc _ _).heap[_]? = _; rw [heap_alloc_if, if_pos (by simp)])); (focus (refine cell_of (t := 3) (z := (0, 0)) (cs := #[.int .i64 c1, .int .i64 c2]) ?_ rfl; show (World.alloc _ _).heap[_]? = _; rw [heap_alloc_if, if_pos (by simp)])); rintro e w' ⟨rfl, rfl⟩))
  all_goals go_wp2_with fail
  all_goals go_ret
  all_goals exact ⟨rfl, by repeat (first | exact Below.refl _ _ | refine Below.drew ?_ | refine Below.alloc ?_ (by first | exact Nat.le_refl _ | (simp; done) | (simp; omega)) _)⟩
end Go.Proofs.Ytolappaekjdcgaa
