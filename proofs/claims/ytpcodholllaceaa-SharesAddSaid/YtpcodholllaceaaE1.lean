import Derived.Test.YtpcodholllaceaaD5
import Derived.Test.YtpcodholllaceaaI1
namespace Go.Proofs.Ytpcodholllaceaa
open Go.RowKit Go.Shelf

/-- a slice of numbers -/
def IsU64 (w : World) (M : Nat → Prop) (v : Value) (xs : List Nat) : Prop := IsSl w M 1 v xs.length (fun i _ => .int .u64 ((xs.getD i 0 : Nat) : Int))
def U64s (xs : List Nat) : Prop := ∀ x ∈ xs, x < 18446744073709551616
theorem U64s.getD {xs : List Nat} (h : U64s xs) (i : Nat) : xs.getD i 0 < 18446744073709551616 := by
  rw [List.getD_eq_getElem?_getD]
  rcases Nat.lt_or_ge i xs.length with hi | hi
  · rw [List.getElem?_eq_getElem hi]; exact h _ (List.getElem_mem hi)
  · rw [List.getElem?_eq_none hi]; simp
theorem range_any {α : Type} (l : List α) (z : α) (p : α → Bool) : (List.range l.length).any (fun i => p (l.getD i z)) = l.any p := by
  rw [Bool.eq_iff_iff, List.any_eq_true, List.any_eq_true]
  constructor
  · rintro ⟨i, hi, h⟩
    rw [List.mem_range] at hi
    refine ⟨l.getD i z, ?_, h⟩
    simp [List.getD_eq_getElem?_getD, hi]
  · rintro ⟨x, hx, h⟩
    obtain ⟨i, hi, rfl⟩ := List.getElem_of_mem hx
    exact ⟨i, by simpa using hi, by simpa [List.getD_eq_getElem?_getD, hi] using h⟩
theorem drn_below {w w' : World} (h : ∃ n, w' = w.drewN n) : Below w.heap.size w w' := by obtain ⟨n, rfl⟩ := h; exact below_drewN (Below.refl _ _) n

set_option maxRecDepth 100000 in
theorem coef_any (c : Nat) (w : World) : Calls Try.prog 29 #[.int .u64 c] w fun e w' => e = .returned (.bool (coefOk c)) ∧ w = w' := by
  obtain ⟨b, hb⟩ : ∃ b, decide ((c : Int) < 1152921504606845789) = b := ⟨_, rfl⟩
  have hc : coefOk c = b := by rw [← hb]; exact decide_eq_decide.2 (by omega)
  rw [hc]
  clear hc
  go_enter Try.func29, Try.ntmps29
  go_wp2_with fail
  go_ret
  exact ⟨rfl, rfl⟩
set_option maxRecDepth 100000 in
theorem elem_any (c : Nat) (w : World) : Calls Try.prog 37 #[.int .u64 c] w fun e w' => e = .returned (.bool (elOk c)) ∧ ∃ n, w' = w.drewN n := by
  by_cases h1 : 1 ≤ c
  · have b1 : decide ((1 : Int) ≤ (c : Int)) = true := by simp; omega
    by_cases h2 : c < 2305843009213691579
    · have b2 : decide ((c : Int) < 2305843009213691579) = true := by simp; omega
      have C := Lib.hid (Pow_any c 1152921504606845789 (by decide) w)
      have he : elOk c = (((pw c 1152921504606845789 : Nat) : Int) == 1) := by
        unfold elOk
        rw [decide_eq_true h1, decide_eq_true h2, Bool.eq_iff_iff]
        simp
        omega
      rw [he]
      obtain ⟨z, hz⟩ : ∃ z, pw c 1152921504606845789 = z := ⟨_, rfl⟩
      rw [hz] at C ⊢
      clear h1 h2 he hz
      go_enter Try.func37, Try.ntmps37
      go_wp2_with fail
      refine C.out.mono ?_
      rintro e w' ⟨rfl, n, rfl⟩
      go_wp2_with fail
      go_ret
      exact ⟨rfl, n, rfl⟩
    · have b2 : decide ((c : Int) < 2305843009213691579) = false := by simp; omega
      have he : elOk c = false := by unfold elOk; rw [decide_eq_false h2]; simp
      rw [he]
      clear h1 h2 he
      go_enter Try.func37, Try.ntmps37
      go_wp2_with fail
      go_ret
      exact ⟨rfl, 0, rfl⟩
  · have b1 : decide ((1 : Int) ≤ (c : Int)) = false := by simp; omega
    have he : elOk c = false := by unfold elOk; rw [decide_eq_false h1]; simp
    rw [he]
    clear h1 he
    go_enter Try.func37, Try.ntmps37
    go_wp2_with fail
    go_ret
    exact ⟨rfl, 0, rfl⟩
/-- a function on a number that answers ok -/
def Asks (g : FuncId) (ok : Nat → Bool) : Prop := Enters Try.prog g ∧ ∀ x w, Calls Try.prog g #[.int .u64 (x : Nat)] w fun e w' => e = .returned (.bool (ok x)) ∧ Below w.heap.size w w'
theorem asks_coef : Asks 29 coefOk := ⟨enters_of Try.func29 (by kernel_rfl) rfl, fun x w => (coef_any x w).mono fun _ _ ⟨he, hw⟩ => ⟨he, hw ▸ Below.refl _ _⟩⟩
theorem asks_elem : Asks 37 elOk := ⟨enters_of Try.func37 (by kernel_rfl) rfl, fun x w => (elem_any x w).mono fun _ _ ⟨he, hw⟩ => ⟨he, drn_below hw⟩⟩
theorem all1_any {g : FuncId} {ok : Nat → Bool} (hg : Asks g ok) (x b : Nat) (w : World) (hb : w.cell? ⟨b, 0, none⟩ = some (.func (.func g) #[] #[])) :
    Calls Try.prog 50 #[.int .u64 x, .pointer (some ⟨b, 0, none⟩)] w fun e w' => e = .returned (.bool (!ok x)) ∧ Below w.heap.size w w' := by
  have C := Lib.hid (hg.2 x w)
  have hg' := fun args => hg.1 args w
  clear hg
  go_enter Try.func50, Try.ntmps50
  go_wp2_with fail
  refine C.out.mono ?_
  rintro e w' ⟨rfl, hb1⟩
  go_wp2_with fail
  go_ret
  exact ⟨rfl, hb1⟩
end Go.Proofs.Ytpcodholllaceaa
