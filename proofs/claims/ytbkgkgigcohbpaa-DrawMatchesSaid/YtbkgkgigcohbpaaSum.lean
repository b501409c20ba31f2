/- Finite sums of natural numbers. No program here. For any seat. -/
namespace Go.Proofs.Ytbkgkgigcohbpaa.Sm
def sumB (f : Nat → Nat) : Nat → Nat
  | 0 => 0
  | k + 1 => sumB f k + f k
theorem sumB_congr {f g : Nat → Nat} : ∀ {n : Nat}, (∀ k, k < n → f k = g k) → sumB f n = sumB g n
  | 0, _ => rfl
  | n + 1, h => by rw [sumB, sumB, sumB_congr (fun k hk => h k (by omega)), h n (by omega)]
theorem sumB_add (f g : Nat → Nat) : ∀ n, sumB (fun k => f k + g k) n = sumB f n + sumB g n
  | 0 => rfl
  | n + 1 => by rw [sumB, sumB, sumB, sumB_add f g n]; omega
theorem sumB_zero : ∀ n, sumB (fun _ => 0) n = 0
  | 0 => rfl
  | n + 1 => by rw [sumB, sumB_zero n]
theorem sumB_mul (f : Nat → Nat) (c : Nat) : ∀ n, sumB (fun k => c * f k) n = c * sumB f n
  | 0 => by simp [sumB]
  | n + 1 => by rw [sumB, sumB, sumB_mul f c n, Nat.mul_add]
theorem sumB_le {f g : Nat → Nat} : ∀ {n : Nat}, (∀ k, k < n → f k ≤ g k) → sumB f n ≤ sumB g n
  | 0, _ => Nat.le_refl _
  | n + 1, h => by rw [sumB, sumB]; exact Nat.add_le_add (sumB_le fun k hk => h k (by omega)) (h n (by omega))
theorem sumB_mono {f : Nat → Nat} {m n : Nat} (h : m ≤ n) : sumB f m ≤ sumB f n := by
  induction n with
  | zero => rw [show m = 0 by omega]; exact Nat.le_refl _
  | succ n ih =>
    rcases Nat.lt_or_ge m (n + 1) with hm | hm
    · have := ih (by omega); rw [sumB]; omega
    · rw [show m = n + 1 by omega]; exact Nat.le_refl _
theorem sumB_term {f : Nat → Nat} {k n : Nat} (h : k < n) : f k ≤ sumB f n := by
  have := sumB_mono (f := f) (show k + 1 ≤ n by omega)
  rw [sumB] at this
  omega
theorem sumB_nil {f : Nat → Nat} {n : Nat} (h : ∀ t, t < n → f t = 0) : sumB f n = 0 := (sumB_congr h).trans (sumB_zero n)
theorem sumB_one {c0 : Nat} : ∀ {n : Nat}, c0 < n → sumB (fun c => if c0 = c then 1 else 0) n = 1
  | 0, h => absurd h (by omega)
  | n + 1, h => by
    rw [sumB]
    rcases Nat.lt_or_ge c0 n with h1 | h1
    · rw [sumB_one h1, if_neg (by omega)]
    · obtain rfl : c0 = n := by omega
      rw [if_pos rfl, sumB_nil (fun t ht => if_neg (by omega))]
theorem sumB_swap (g : Nat → Nat → Nat) (m : Nat) : ∀ n, sumB (fun r => sumB (g r) m) n = sumB (fun c => sumB (fun r => g r c) n) m
  | 0 => (sumB_zero m).symm
  | n + 1 => by
    rw [sumB, sumB_swap g m n, ← sumB_add]
    rfl
theorem sumB_uniq {f : Nat → Nat} : ∀ {n : Nat}, (∀ r, r < n → f r ≤ 1) → (∀ r q, r < n → q < n → f r = 1 → f q = 1 → r = q) → sumB f n ≤ 1
  | 0, _, _ => Nat.zero_le _
  | n + 1, h1, h2 => by
    have ih := sumB_uniq (n := n) (fun r hr => h1 r (by omega)) (fun r q hr hq => h2 r q (by omega) (by omega))
    have hn := h1 n (by omega)
    rw [sumB]
    rcases Nat.lt_or_ge (f n) 1 with h | h
    · omega
    · have : sumB f n = 0 := sumB_nil fun r hr => by
        have hr1 := h1 r (by omega)
        rcases Nat.lt_or_ge (f r) 1 with h3 | h3
        · omega
        · have := h2 r n (by omega) (by omega) (by omega) (by omega)
          omega
      omega
theorem sumB_full {f : Nat → Nat} : ∀ {n : Nat}, (∀ c, c < n → f c ≤ 1) → sumB f n = n → ∀ c, c < n → f c = 1
  | 0, _, _, c, hc => absurd hc (by omega)
  | n + 1, h1, h2, c, hc => by
    have hle : sumB f n ≤ n := by
      have := sumB_le (f := f) (g := fun _ => 1) (n := n) (fun k hk => h1 k (by omega))
      have e : sumB (fun _ => 1) n = n := by
        clear h1 h2 hc this
        induction n with
        | zero => rfl
        | succ n ih => rw [sumB, ih]
      omega
    have hn := h1 n (by omega)
    rw [sumB] at h2
    rcases Nat.lt_or_ge c n with h | h
    · exact sumB_full (n := n) (fun k hk => h1 k (by omega)) (by omega) c h
    · rw [show c = n by omega]; omega
end Go.Proofs.Ytbkgkgigcohbpaa.Sm
