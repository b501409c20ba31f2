/- Plain mathematics: interpolation. No program here. -/
namespace Go.Proofs.Ytpcodholllaceaa
section
variable {q : Nat} [NeZero q]
/-- the value of a polynomial -/
def ev : List (Fin q) → Fin q → Fin q
  | [], _ => 0
  | a :: r, x => a + x * ev r x
def Poly (n : Nat) (h : Fin q → Fin q) : Prop := ∃ c : List (Fin q), c.length ≤ n ∧ ∀ x, h x = ev c x
theorem ev_add : ∀ (c d : List (Fin q)), ∃ e : List (Fin q), e.length ≤ max c.length d.length ∧ ∀ x, ev c x + ev d x = ev e x
  | [], d => ⟨d, by simp, fun x => by simp only [ev]; grind⟩
  | c, [] => ⟨c, by simp, fun x => by simp only [ev]; grind⟩
  | a :: c, b :: d => by
    obtain ⟨e, h1, h2⟩ := ev_add c d
    refine ⟨(a + b) :: e, by simp; omega, fun x => ?_⟩
    have := h2 x
    simp only [ev]
    rw [← this]
    grind
theorem ev_mul (a : Fin q) : ∀ (c : List (Fin q)), ∃ e : List (Fin q), e.length ≤ c.length ∧ ∀ x, a * ev c x = ev e x
  | [] => ⟨[], by simp, fun x => by simp only [ev]; grind⟩
  | b :: c => by
    obtain ⟨e, h1, h2⟩ := ev_mul a c
    refine ⟨(a * b) :: e, by simp; omega, fun x => ?_⟩
    have := h2 x
    simp only [ev]
    rw [← this]
    grind
theorem ev_div (r : Fin q) : ∀ (c : List (Fin q)), ∃ d : List (Fin q), d.length ≤ c.length - 1 ∧ ∀ x, ev c x = ev c r + (x - r) * ev d x
  | [] => ⟨[], by simp, fun x => by simp only [ev]; grind⟩
  | [a] => ⟨[], by simp, fun x => by simp only [ev]; grind⟩
  | a :: b :: c => by
    obtain ⟨d, h1, h2⟩ := ev_div r (b :: c)
    refine ⟨ev (b :: c) r :: d, by simp at h1 ⊢; omega, fun x => ?_⟩
    have hx := h2 x
    show a + x * ev (b :: c) x = (a + r * ev (b :: c) r) + (x - r) * (ev (b :: c) r + x * ev d x)
    rw [hx]
    generalize ev (b :: c) r = u
    generalize ev d x = v
    grind
namespace Poly
variable {n m : Nat} {f g : Fin q → Fin q}
theorem mono (h : Poly n f) (hm : n ≤ m) : Poly m f := by obtain ⟨c, h1, h2⟩ := h; exact ⟨c, by omega, h2⟩
theorem add (h : Poly n f) (h' : Poly n g) : Poly n (fun x => f x + g x) := by
  obtain ⟨c, h1, h2⟩ := h
  obtain ⟨d, h3, h4⟩ := h'
  obtain ⟨e, h5, h6⟩ := ev_add c d
  exact ⟨e, by omega, fun x => by show f x + g x = _; rw [h2, h4, h6]⟩
theorem smul (h : Poly n f) (a : Fin q) : Poly n (fun x => a * f x) := by
  obtain ⟨c, h1, h2⟩ := h
  obtain ⟨e, h5, h6⟩ := ev_mul a c
  exact ⟨e, by omega, fun x => by show a * f x = _; rw [h2, h6]⟩
theorem one : Poly 1 (fun _ : Fin q => 1) := ⟨[1], by simp, fun x => by simp only [ev]; grind⟩
theorem zero : Poly n (fun _ : Fin q => 0) := ⟨[], by simp, fun x => rfl⟩
theorem mulX (h : Poly n f) : Poly (n + 1) (fun x => x * f x) := by
  obtain ⟨c, h1, h2⟩ := h
  exact ⟨0 :: c, by simp; omega, fun x => by show x * f x = 0 + x * ev c x; rw [h2]; grind⟩
theorem lin (h : Poly n f) (a : Fin q) : Poly (n + 1) (fun x => f x * (x - a)) := by
  have h1 := h.mulX.add ((h.smul (-a)).mono (Nat.le_succ n))
  refine ⟨h1.choose, h1.choose_spec.1, fun x => ?_⟩
  have := h1.choose_spec.2 x
  rw [← this]
  grind
end Poly
/-- a unit, in the sense that its power is its inverse -/
def Unt (a : Fin q) : Prop := ∃ b, a * b = 1
theorem Unt.mul {a b : Fin q} (ha : Unt a) (hb : Unt b) : Unt (a * b) := by
  obtain ⟨c, h1⟩ := ha
  obtain ⟨d, h2⟩ := hb
  exact ⟨c * d, by grind⟩
theorem Unt.one : Unt (1 : Fin q) := ⟨1, by grind⟩
theorem Unt.cancel {a b : Fin q} (ha : Unt a) (h : a * b = 0) : b = 0 := by
  obtain ⟨c, h1⟩ := ha
  grind
/-- a polynomial with as many roots as coefficients is zero -/
theorem Poly.roots : ∀ (n : Nat) (f : Fin q → Fin q) (xs : Nat → Fin q), Poly n f → (∀ i j, i < n → j < n → i ≠ j → Unt (xs i - xs j)) → (∀ i, i < n → f (xs i) = 0) → ∀ x, f x = 0
  | 0, f, xs, h, _, _, x => by
    obtain ⟨c, h1, h2⟩ := h
    obtain rfl : c = [] := List.eq_nil_of_length_eq_zero (by omega)
    exact h2 x
  | n + 1, f, xs, h, hu, hr, x => by
    obtain ⟨c, h1, h2⟩ := h
    obtain ⟨d, h3, h4⟩ := ev_div (xs n) c
    have h0 : ev c (xs n) = 0 := (h2 _).symm.trans (hr n (by omega))
    have hd : ∀ y, ev d y = 0 := Poly.roots n (ev d) xs ⟨d, by omega, fun _ => rfl⟩ (fun i j hi hj hij => hu i j (by omega) (by omega) hij) (fun i hi => by
      have e1 := h4 (xs i)
      rw [h0, ← h2, hr i (by omega)] at e1
      exact (hu i n (by omega) (by omega) (by omega)).cancel (by grind))
    rw [h2, h4, h0, hd]
    grind
/-- the product of x - xs k, k < n, but for k = i -/
def lag (xs : Nat → Fin q) (i : Nat) (x : Fin q) : Nat → Fin q
  | 0 => 1
  | n + 1 => if n = i then lag xs i x n else lag xs i x n * (x - xs n)
theorem lag_poly1 (xs : Nat → Fin q) (i : Nat) : ∀ n, Poly (n + 1) (fun x => lag xs i x n)
  | 0 => Poly.one
  | n + 1 => by
    by_cases e : n = i
    · simp only [lag, if_pos e]; exact (lag_poly1 xs i n).mono (by omega)
    · simp only [lag, if_neg e]; exact (lag_poly1 xs i n).lin _
theorem lag_poly (xs : Nat → Fin q) (i : Nat) : ∀ n, i < n → Poly n (fun x => lag xs i x n)
  | 0, h => by omega
  | n + 1, h => by
    by_cases e : n = i
    · simp only [lag, if_pos e]; exact lag_poly1 xs i n
    · simp only [lag, if_neg e]; exact (lag_poly xs i n (by omega)).lin _
theorem lag_zero (xs : Nat → Fin q) (i j : Nat) (hij : j ≠ i) : ∀ n, j < n → lag xs i (xs j) n = 0
  | 0, h => by omega
  | n + 1, h => by
    by_cases e : n = i
    · simp only [lag, if_pos e]; exact lag_zero xs i j hij n (by omega)
    · simp only [lag, if_neg e]
      by_cases e2 : j = n
      · subst e2; grind
      · rw [lag_zero xs i j hij n (by omega)]; grind
theorem lag_unt (xs : Nat → Fin q) (i : Nat) : ∀ n, (∀ k, k < n → k ≠ i → Unt (xs i - xs k)) → Unt (lag xs i (xs i) n)
  | 0, _ => Unt.one
  | n + 1, h => by
    have ih := lag_unt xs i n (fun k hk => h k (by omega))
    by_cases e : n = i
    · simp only [lag, if_pos e]; exact ih
    · simp only [lag, if_neg e]; exact ih.mul (h n (by omega) e)
/-- the interpolation, with w i the inverse of its denominator -/
def interp (xs ys ws : Nat → Fin q) (n : Nat) (x : Fin q) : Nat → Fin q
  | 0 => 0
  | i + 1 => interp xs ys ws n x i + ys i * lag xs i x n * ws i
theorem interp_poly (xs ys ws : Nat → Fin q) (n : Nat) : ∀ m, m ≤ n → Poly n (fun x => interp xs ys ws n x m)
  | 0, _ => Poly.zero
  | m + 1, h => by
    have h1 := (interp_poly xs ys ws n m (by omega)).add ((lag_poly xs m n (by omega)).smul (ys m * ws m))
    refine ⟨h1.choose, h1.choose_spec.1, fun x => ?_⟩
    have := h1.choose_spec.2 x
    rw [← this]
    simp only [interp]
    grind
theorem interp_at (xs ys ws : Nat → Fin q) (n j : Nat) (hj : j < n) (hw : lag xs j (xs j) n * ws j = 1) : ∀ m, m ≤ n → interp xs ys ws n (xs j) m = if j < m then ys j else 0
  | 0, _ => by simp [interp]
  | m + 1, h => by
    rw [interp, interp_at xs ys ws n j hj hw m (by omega)]
    by_cases e : j = m
    · subst e
      rw [if_neg (by omega), if_pos (by omega)]
      grind
    · rw [lag_zero xs m j e n hj]
      by_cases e2 : j < m
      · rw [if_pos e2, if_pos (by omega)]; grind
      · rw [if_neg e2, if_neg (by omega)]; grind
/-- interpolation gives back every polynomial with so few coefficients -/
theorem interp_eq {xs ys ws : Nat → Fin q} {n : Nat} (hu : ∀ i j, i < n → j < n → i ≠ j → Unt (xs i - xs j)) (hw : ∀ j, j < n → lag xs j (xs j) n * ws j = 1) {f : Fin q → Fin q} (hf : Poly n f) (hy : ∀ j, j < n → ys j = f (xs j)) (x : Fin q) :
    interp xs ys ws n x n = f x := by
  have h1 := (interp_poly xs ys ws n n (Nat.le_refl _)).add (hf.smul (-1))
  have h2 := Poly.roots n _ xs h1 hu (fun i hi => by
    show interp xs ys ws n (xs i) n + -1 * f (xs i) = 0
    rw [interp_at xs ys ws n i hi (hw i hi) n (Nat.le_refl _), if_pos hi, hy i hi]
    grind) x
  have h3 : interp xs ys ws n x n + -1 * f x = 0 := h2
  grind
end
end Go.Proofs.Ytpcodholllaceaa
