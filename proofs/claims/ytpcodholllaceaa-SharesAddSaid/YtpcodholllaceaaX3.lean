/- Plain laws of shares that hide the secret. No program here. -/
import Derived.Test.YtpcodholllaceaaX2
namespace Go.Proofs.Ytpcodholllaceaa
theorem join_all {l : List (Nat × Nat)} (h : Nice l) (h1 : 1 ≤ l.length) (h2 : l.length ≤ 24) (hok : ∀ s ∈ l, shOk s = true) : joinD l (l.length : Int) = (atD l 0, 0) := by
  unfold joinD
  rw [if_pos ⟨⟨by omega, by omega⟩, List.all_eq_true.2 hok⟩, Int.toNat_natCast, firstD_nice h, List.take_length, if_neg]
  rintro (hh | hh)
  · omega
  · rw [List.all_eq_false] at hh
    obtain ⟨s, hs, hne⟩ := hh
    refine hne ?_
    obtain ⟨j, hj, rfl⟩ := List.getElem_of_mem hs
    have hq : (l[j]).2 < 1152921504606845789 := by
      have := hok _ hs
      unfold shOk at this
      simp only [Bool.and_eq_true, decide_eq_true_eq] at this
      exact this.2
    have := at_own h hj (by rw [List.getD_eq_getElem?_getD, List.getElem?_eq_getElem hj]; exact hq)
    rw [List.getD_eq_getElem?_getD, List.getElem?_eq_getElem hj] at this
    simpa using this
section
variable (l : List (Nat × Nat)) (x : Nat)
theorem fst_snoc (y i : Nat) : ((l ++ [(x, y)]).getD i (0, 0)).1 = ((l ++ [(x, 0)]).getD i (0, 0)).1 := by
  rw [List.getD_eq_getElem?_getD, List.getD_eq_getElem?_getD]
  rcases Nat.lt_or_ge i l.length with hi | hi
  · rw [List.getElem?_append_left hi, List.getElem?_append_left hi]
  · rw [List.getElem?_append_right hi, List.getElem?_append_right hi]
    rcases Nat.eq_zero_or_pos (i - l.length) with h | h
    · rw [h]; rfl
    · rw [List.getElem?_eq_none (by simp; omega), List.getElem?_eq_none (by simp; omega)]
theorem xsF_snoc (y : Nat) : xsF (l ++ [(x, y)]) = xsF (l ++ [(x, 0)]) := funext fun i => by unfold xsF; rw [fst_snoc]
theorem prodQ_snoc (y i a : Nat) : ∀ n v, prodQ (l ++ [(x, y)]) i a n v = prodQ (l ++ [(x, 0)]) i a n v
  | 0, v => rfl
  | n + 1, v => by
    show (if n = i then prodQ (l ++ [(x, y)]) i a n v else prodQ (l ++ [(x, y)]) i a n v * minusQ a ((l ++ [(x, y)]).getD n (0, 0)).1 % 1152921504606845789) = (if n = i then prodQ (l ++ [(x, 0)]) i a n v else prodQ (l ++ [(x, 0)]) i a n v * minusQ a ((l ++ [(x, 0)]).getD n (0, 0)).1 % 1152921504606845789)
    rw [prodQ_snoc y i a n v, fst_snoc]
theorem wsF_snoc (y : Nat) : wsF (l ++ [(x, y)]) = wsF (l ++ [(x, 0)]) := funext fun i => by
  unfold wsF
  rw [prodQ_snoc, fst_snoc, List.length_append, List.length_append]
  rfl
theorem ysF_snoc (y i : Nat) (hi : i < l.length) : ysF (l ++ [(x, y)]) i = ysF (l ++ [(x, 0)]) i := by
  unfold ysF
  rw [List.getD_eq_getElem?_getD, List.getD_eq_getElem?_getD, List.getElem?_append_left hi, List.getElem?_append_left hi]
theorem ysF_last (y : Nat) : ysF (l ++ [(x, y)]) l.length = ct 1152921504606845789 y := by
  unfold ysF
  rw [List.getD_eq_getElem?_getD, List.getElem?_append_right (Nat.le_refl _), Nat.sub_self]
  rfl
end
theorem interp_congr {q : Nat} [NeZero q] {xs ys ys' ws : Nat → Fin q} {n : Nat} {x : Fin q} : ∀ m, (∀ i, i < m → ys i = ys' i) → interp xs ys ws n x m = interp xs ys' ws n x m
  | 0, _ => rfl
  | m + 1, h => by
    show interp xs ys ws n x m + ys m * lag xs m x n * ws m = interp xs ys' ws n x m + ys' m * lag xs m x n * ws m
    rw [interp_congr m (fun i hi => h i (by omega)), h m (by omega)]
/-- the secret is a line in the last share -/
theorem hid_line {l : List (Nat × Nat)} {x : Nat} (h : Nice (l ++ [(x, 0)])) (h0 : ∀ i, i < l.length → 1 ≤ (l.getD i (0, 0)).1) :
    ∃ A B : Fin 1152921504606845789, B ≠ 0 ∧ ∀ y, ct 1152921504606845789 (atD (l ++ [(x, y)]) 0) = A + B * ct 1152921504606845789 y := by
  refine ⟨interp (xsF (l ++ [(x, 0)])) (ysF (l ++ [(x, 0)])) (wsF (l ++ [(x, 0)])) (l.length + 1) (ct 1152921504606845789 0) l.length, lag (xsF (l ++ [(x, 0)])) l.length (ct 1152921504606845789 0) (l.length + 1) * wsF (l ++ [(x, 0)]) l.length, ?_, fun y => ?_⟩
  · refine Unt.ne (by decide) (Unt.mul ?_ ?_)
    · have hz : ∀ n, n ≤ l.length → Unt (lag (xsF (l ++ [(x, 0)])) l.length (ct 1152921504606845789 0) n) := by
        intro n
        induction n with
        | zero => exact fun _ => Unt.one
        | succ n ih =>
          intro hn
          show Unt (if n = l.length then _ else lag (xsF (l ++ [(x, 0)])) l.length (ct 1152921504606845789 0) n * (ct 1152921504606845789 0 - xsF (l ++ [(x, 0)]) n))
          rw [if_neg (by omega)]
          refine (ih (by omega)).mul (unt_ne prm_Q (by decide) (ct_ne (by decide) (h.small n) ?_))
          have := h0 n (by omega)
          have e : ((l ++ [(x, 0)]).getD n (0, 0)).1 = (l.getD n (0, 0)).1 := by
            rw [List.getD_eq_getElem?_getD, List.getD_eq_getElem?_getD, List.getElem?_append_left (by omega)]
          omega
      show Unt (if l.length = l.length then lag (xsF (l ++ [(x, 0)])) l.length (ct 1152921504606845789 0) l.length else _)
      rw [if_pos rfl]
      exact hz _ (Nat.le_refl _)
    · have hi := h.inv (j := l.length) (by simp)
      exact ⟨_, (Fin.mul_comm _ _).trans hi⟩
  · have hs : Nice (l ++ [(x, y)]) := by
      refine ⟨fun s hs => ?_, fun i j hi hj hij => ?_⟩
      · rcases List.mem_append.1 hs with e | e
        · exact h.lo s (List.mem_append_left _ e)
        · rw [List.mem_singleton] at e
          rw [e]
          exact h.lo (x, 0) (by simp)
      · rw [fst_snoc, fst_snoc l x y j]
        exact h.nd i j (by simpa using hi) (by simpa using hj) hij
    unfold atD
    rw [ct_atSum hs.small, xsF_snoc, wsF_snoc, List.length_append]
    show interp _ _ _ (l.length + 1) _ l.length + ysF (l ++ [(x, y)]) l.length * lag (xsF (l ++ [(x, 0)])) l.length (ct 1152921504606845789 0) (l.length + 1) * wsF (l ++ [(x, 0)]) l.length = _
    rw [ysF_last, interp_congr _ (fun i hi => ysF_snoc l x y i hi)]
    generalize interp (xsF (l ++ [(x, 0)])) (ysF (l ++ [(x, 0)])) (wsF (l ++ [(x, 0)])) (l.length + 1) (ct 1152921504606845789 0) l.length = u
    generalize lag (xsF (l ++ [(x, 0)])) l.length (ct 1152921504606845789 0) (l.length + 1) = v
    generalize wsF (l ++ [(x, 0)]) l.length = w
    generalize ct 1152921504606845789 y = z
    rw [Fin.mul_comm z v, Fin.mul_assoc, Fin.mul_comm z w, ← Fin.mul_assoc]
def plusQ (a b : Nat) : Nat := (a % 1152921504606845789 + b % 1152921504606845789) % 1152921504606845789
def timesQ (a b : Nat) : Nat := (a % 1152921504606845789) * (b % 1152921504606845789) % 1152921504606845789
/-- the further share that leads to a secret: a, c are the secrets joined with 0 and 1 -/
def hidY (secret a c : Nat) : Nat := timesQ (plusQ secret (1152921504606845789 - a % 1152921504606845789)) (sqm 1152921504606845789 64 1 (plusQ c (1152921504606845789 - a % 1152921504606845789)) (1152921504606845789 - 2))
theorem ct_plusQ (a b : Nat) : ct 1152921504606845789 (plusQ a b) = ct 1152921504606845789 a + ct 1152921504606845789 b := by unfold plusQ; rw [ct_mod, ct_add, ct_mod, ct_mod]
theorem ct_timesQ (a b : Nat) : ct 1152921504606845789 (timesQ a b) = ct 1152921504606845789 a * ct 1152921504606845789 b := by unfold timesQ; rw [ct_mod, ct_mul, ct_mod, ct_mod]
theorem ct_negQ (z a : Nat) : ct 1152921504606845789 (plusQ z (1152921504606845789 - a % 1152921504606845789)) = ct 1152921504606845789 z - ct 1152921504606845789 a := by
  have h := ct_minus (q := 1152921504606845789) (a := z) (b := a % 1152921504606845789) (Nat.le_of_lt (Nat.mod_lt _ (by decide)))
  rw [ct_plusQ, ← ct_add, h, ct_mod]
theorem hid_join {l : List (Nat × Nat)} {x : Nat} (h : Nice (l ++ [(x, 0)])) (h0 : ∀ i, i < l.length → 1 ≤ (l.getD i (0, 0)).1) {secret : Nat} (hs : secret < 1152921504606845789) :
    atD (l ++ [(x, hidY secret (atD (l ++ [(x, 0)]) 0) (atD (l ++ [(x, 1)]) 0))]) 0 = secret := by
  obtain ⟨A, B, hB, hl⟩ := hid_line h h0
  have ha := hl 0
  have hc := hl 1
  have hy := hl (hidY secret (atD (l ++ [(x, 0)]) 0) (atD (l ++ [(x, 1)]) 0))
  generalize atD (l ++ [(x, 0)]) 0 = a at *
  generalize atD (l ++ [(x, 1)]) 0 = c at *
  refine ct_inj (atD_lt _ _) hs ?_
  rw [hy]
  unfold hidY
  have hb : ct 1152921504606845789 (plusQ c (1152921504606845789 - a % 1152921504606845789)) = B := by
    rw [ct_negQ, ha, hc, ct_zero, ct_one, Fin.mul_one, Fin.mul_zero]
    generalize A = u at *
    generalize B = v at *
    rw [Fin.sub_eq_add_neg]
    grind
  have hi := ct_inv prm_Q (by decide) (a := plusQ c (1152921504606845789 - a % 1152921504606845789)) (by rw [hb]; exact hB)
  rw [hb] at hi
  rw [ct_timesQ, ct_negQ, ha, ct_zero, Fin.mul_zero]
  generalize ct 1152921504606845789 (sqm 1152921504606845789 64 1 (plusQ c (1152921504606845789 - a % 1152921504606845789)) (1152921504606845789 - 2)) = iv at *
  generalize ct 1152921504606845789 secret = sc at *
  generalize ct 1152921504606845789 a = a' at *
  generalize ct 1152921504606845789 c = c' at *
  clear hl hy ha hc hb hs h h0 hB
  grind
end Go.Proofs.Ytpcodholllaceaa
