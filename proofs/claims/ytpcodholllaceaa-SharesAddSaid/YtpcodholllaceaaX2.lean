/- Plain laws of joining shares. No program here. -/
import Derived.Test.YtpcodholllaceaaX1
import Derived.Test.YtpcodholllaceaaM5
namespace Go.Proofs.Ytpcodholllaceaa
instance nzQ : NeZero 1152921504606845789 := ⟨by decide⟩
def xsF (l : List (Nat × Nat)) (i : Nat) : Fin 1152921504606845789 := ct 1152921504606845789 (l.getD i (0, 0)).1
def ysF (l : List (Nat × Nat)) (i : Nat) : Fin 1152921504606845789 := ct 1152921504606845789 (l.getD i (0, 0)).2
def wsF (l : List (Nat × Nat)) (i : Nat) : Fin 1152921504606845789 := ct 1152921504606845789 (invQ (prodQ l i (l.getD i (0, 0)).1 l.length 1))
def Small (l : List (Nat × Nat)) : Prop := ∀ i, (l.getD i (0, 0)).1 < 1152921504606845789
theorem ct_minusQ {a b : Nat} (h : b < 1152921504606845789) : ct 1152921504606845789 (minusQ a b) = ct 1152921504606845789 a - ct 1152921504606845789 b := by
  unfold minusQ; rw [ct_mod]; exact ct_minus (Nat.le_of_lt h)
theorem ct_prodQ {l : List (Nat × Nat)} (hl : Small l) (i x : Nat) : ∀ (n y : Nat), ct 1152921504606845789 (prodQ l i x n y) = ct 1152921504606845789 y * lag (xsF l) i (ct 1152921504606845789 x) n
  | 0, y => by show ct 1152921504606845789 y = ct 1152921504606845789 y * 1; rw [Fin.mul_one]
  | n + 1, y => by
    by_cases e : n = i
    · show ct 1152921504606845789 (if n = i then prodQ l i x n y else _) = ct 1152921504606845789 y * (if n = i then lag (xsF l) i (ct 1152921504606845789 x) n else _)
      rw [if_pos e, if_pos e]; exact ct_prodQ hl i x n y
    · show ct 1152921504606845789 (if n = i then prodQ l i x n y else _) = ct 1152921504606845789 y * (if n = i then lag (xsF l) i (ct 1152921504606845789 x) n else _)
      rw [if_neg e, if_neg e, ct_mod, ct_mul, ct_prodQ hl i x n y, ct_minusQ (hl n), Fin.mul_assoc]
      rfl
theorem ct_atSum {l : List (Nat × Nat)} (hl : Small l) (x : Nat) : ∀ m, ct 1152921504606845789 (atSum l x m) = interp (xsF l) (ysF l) (wsF l) l.length (ct 1152921504606845789 x) m
  | 0 => rfl
  | m + 1 => by
    show ct 1152921504606845789 ((atSum l x m + atTerm l x m) % 1152921504606845789) = interp (xsF l) (ysF l) (wsF l) l.length (ct 1152921504606845789 x) m + ysF l m * lag (xsF l) m (ct 1152921504606845789 x) l.length * wsF l m
    rw [ct_mod, ct_add, ct_atSum hl x m]
    unfold atTerm
    rw [ct_mod, ct_mul, ct_prodQ hl]
    rfl
theorem atD_lt (l : List (Nat × Nat)) (x : Nat) : atD l x < 1152921504606845789 := by
  unfold atD
  cases l.length with
  | zero => exact (by decide : (0 : Nat) < 1152921504606845789)
  | succ n => exact Nat.mod_lt _ (by decide)
/-- shares with different places -/
structure Nice (l : List (Nat × Nat)) : Prop where
  lo : ∀ s ∈ l, s.1 < 1152921504606845789
  nd : ∀ i j, i < l.length → j < l.length → i ≠ j → (l.getD i (0, 0)).1 ≠ (l.getD j (0, 0)).1
theorem Nice.small {l : List (Nat × Nat)} (h : Nice l) : Small l := fun i => by
  rw [List.getD_eq_getElem?_getD]
  rcases Nat.lt_or_ge i l.length with hi | hi
  · rw [List.getElem?_eq_getElem hi]; exact h.lo _ (List.getElem_mem hi)
  · rw [List.getElem?_eq_none hi]; exact (by decide : (0 : Nat) < 1152921504606845789)
theorem Nice.unt {l : List (Nat × Nat)} (h : Nice l) {i j : Nat} (hi : i < l.length) (hj : j < l.length) (hij : i ≠ j) : Unt (xsF l i - xsF l j) :=
  unt_ne prm_Q (by decide) (ct_ne (h.small i) (h.small j) (h.nd i j hi hj hij))
theorem Unt.ne {q : Nat} [NeZero q] (h1 : (1 : Fin q) ≠ 0) {a : Fin q} (h : Unt a) : a ≠ 0 := by
  rintro rfl
  obtain ⟨b, hb⟩ := h
  exact h1 (by grind)
theorem Nice.inv {l : List (Nat × Nat)} (h : Nice l) {j : Nat} (hj : j < l.length) : lag (xsF l) j (xsF l j) l.length * wsF l j = 1 := by
  have hu := lag_unt (xsF l) j l.length (fun k hk hkj => h.unt hj hk (Ne.symm hkj))
  have e : ct 1152921504606845789 (prodQ l j (l.getD j (0, 0)).1 l.length 1) = lag (xsF l) j (xsF l j) l.length := by
    rw [ct_prodQ h.small, ct_one, Fin.one_mul]; rfl
  have hne := hu.ne (by decide)
  rw [← e] at hne ⊢
  exact ct_inv prm_Q (by decide) hne
/-- the joined value is the polynomial's -/
theorem at_poly {l : List (Nat × Nat)} (h : Nice l) {f : Fin 1152921504606845789 → Fin 1152921504606845789} (hf : Poly l.length f) (hy : ∀ j, j < l.length → ysF l j = f (xsF l j)) (x : Nat) : ct 1152921504606845789 (atD l x) = f (ct 1152921504606845789 x) := by
  unfold atD
  rw [ct_atSum h.small]
  exact interp_eq (fun i j hi hj hij => h.unt hi hj hij) (fun j hj => h.inv hj) hf hy _
/-- the joined value at a share is the share's -/
theorem at_own {l : List (Nat × Nat)} (h : Nice l) {j : Nat} (hj : j < l.length) (hq : (l.getD j (0, 0)).2 < 1152921504606845789) : atD l (l.getD j (0, 0)).1 = (l.getD j (0, 0)).2 := by
  refine ct_inj (atD_lt _ _) hq ?_
  unfold atD
  rw [ct_atSum h.small]
  show interp (xsF l) (ysF l) (wsF l) l.length (xsF l j) l.length = _
  rw [interp_at _ _ _ _ _ hj (h.inv hj) _ (Nat.le_refl _), if_pos hj]
  rfl
theorem hor_ev (x : Nat) : ∀ cs : List Nat, ct 1152921504606845789 (hor cs x) = ev (cs.map (ct 1152921504606845789)) (ct 1152921504606845789 x)
  | [] => rfl
  | c :: r => by
    rw [hor_cons, ct_mod, ct_add, ct_mul, hor_ev x r]
    show _ = ct 1152921504606845789 c + ct 1152921504606845789 x * ev (r.map (ct 1152921504606845789)) (ct 1152921504606845789 x)
    generalize ev (r.map (ct 1152921504606845789)) (ct 1152921504606845789 x) = u
    generalize ct 1152921504606845789 x = v
    generalize ct 1152921504606845789 c = w
    grind
/-- enough shares of a polynomial lead to it -/
theorem at_hor {l : List (Nat × Nat)} (h : Nice l) {cs : List Nat} (hn : cs.length ≤ l.length) (hl : ∀ s ∈ l, s.2 = hor cs s.1) (x : Nat) : atD l x = hor cs x := by
  refine ct_inj (atD_lt _ _) (hor_lt _ _) ?_
  rw [hor_ev]
  refine at_poly h (f := fun z => ev (cs.map (ct 1152921504606845789)) z) ⟨cs.map (ct 1152921504606845789), by simpa using hn, fun _ => rfl⟩ (fun j hj => ?_) x
  show ct 1152921504606845789 _ = ev (cs.map (ct 1152921504606845789)) (ct 1152921504606845789 _)
  rw [← hor_ev, List.getD_eq_getElem?_getD, List.getElem?_eq_getElem hj]
  exact congrArg (ct 1152921504606845789) (hl _ (List.getElem_mem hj))
theorem hor_zero {c : Nat} {cs : List Nat} (hc : c < 1152921504606845789) : hor (c :: cs) 0 = c := by
  rw [hor_cons, Nat.mul_zero, Nat.zero_add, Nat.mod_eq_of_lt hc]
/-- with different places the first shares are the beginning of the list -/
theorem firstD_take : ∀ (l f : List (Nat × Nat)) (t : Nat), (∀ i j, i < (f ++ l).length → j < (f ++ l).length → i ≠ j → ((f ++ l).getD i (0, 0)).1 ≠ ((f ++ l).getD j (0, 0)).1) → l.foldl (firstStep t) f = f ++ l.take (t - f.length)
  | [], f, t, _ => by simp
  | s :: l, f, t, h => by
    rw [List.foldl_cons]
    have hany : f.any (fun u => u.1 == s.1) = false := by
      rw [List.any_eq_false]
      intro u hu e
      obtain ⟨i, hi, rfl⟩ := List.getElem_of_mem hu
      refine h i f.length (by simp; omega) (by simp) (by omega) ?_
      rw [List.getD_eq_getElem?_getD, List.getD_eq_getElem?_getD, List.getElem?_append_left hi, List.getElem?_append_right (Nat.le_refl _), List.getElem?_eq_getElem hi, Nat.sub_self]
      simpa using e
    by_cases ht : f.length < t
    · have e1 : firstStep t f s = f ++ [s] := by unfold firstStep; rw [if_pos ⟨hany, ht⟩]
      rw [e1, firstD_take l (f ++ [s]) t (by rw [List.append_assoc]; exact h), List.append_assoc]
      congr 1
      rw [List.length_append, show t - f.length = (t - (f.length + 1)) + 1 by omega, List.take_succ_cons]
      rfl
    · have e1 : firstStep t f s = f := by unfold firstStep; rw [if_neg (fun hh => ht hh.2)]
      rw [e1, firstD_take l f t (fun i j hi hj hij => ?_), show t - f.length = 0 by omega]
      · simp
      · have e2 : ∀ k, k < (f ++ l).length → ((f ++ l).getD k (0, 0)) = ((f ++ s :: l).getD (if k < f.length then k else k + 1) (0, 0)) := by
          intro k hk
          rw [List.getD_eq_getElem?_getD, List.getD_eq_getElem?_getD]
          by_cases hkf : k < f.length
          · rw [if_pos hkf, List.getElem?_append_left hkf, List.getElem?_append_left hkf]
          · rw [if_neg hkf, List.getElem?_append_right (by omega), List.getElem?_append_right (by omega), show k + 1 - f.length = (k - f.length) + 1 by omega, List.getElem?_cons_succ]
        rw [e2 i hi, e2 j hj]
        simp only [List.length_append, List.length_cons] at hi hj h ⊢
        refine h _ _ ?_ ?_ ?_ <;> (repeat' split) <;> omega
theorem firstD_nice {l : List (Nat × Nat)} (h : Nice l) (t : Nat) : firstD l t = l.take t := by
  unfold firstD
  rw [firstD_take l [] t (by simpa using h.nd)]
  simp
theorem Nice.take {l : List (Nat × Nat)} (h : Nice l) (t : Nat) : Nice (l.take t) := by
  refine ⟨fun s hs => h.lo s (List.mem_of_mem_take hs), fun i j hi hj hij => ?_⟩
  simp only [List.length_take] at hi hj
  have e : ∀ k, k < t → (l.take t).getD k (0, 0) = l.getD k (0, 0) := fun k hk => by
    rw [List.getD_eq_getElem?_getD, List.getD_eq_getElem?_getD, List.getElem?_take, if_pos hk]
  rw [e i (by omega), e j (by omega)]
  exact h.nd i j (by omega) (by omega) hij
/-- shares of a polynomial: joined, they lead to its constant coefficient, or are too few -/
theorem join_hor {l : List (Nat × Nat)} (h : Nice l) {cs : List Nat} (h1 : 1 ≤ cs.length) (h2 : cs.length ≤ 24) (hok : ∀ s ∈ l, shOk s = true) (hl : ∀ s ∈ l, s.2 = hor cs s.1) :
    joinD l (cs.length : Int) = if l.length < cs.length then (0, 230) else (hor cs 0, 0) := by
  unfold joinD
  rw [if_pos ⟨⟨by omega, by omega⟩, List.all_eq_true.2 hok⟩, Int.toNat_natCast, firstD_nice h, List.length_take]
  by_cases hlt : l.length < cs.length
  · rw [if_pos hlt, if_pos (.inl (by omega))]
  · rw [if_neg hlt, if_neg]
    · rw [at_hor (h.take _) (by rw [List.length_take]; omega) (fun s hs => hl s (List.mem_of_mem_take hs))]
    · rintro (hh | hh)
      · omega
      · rw [List.all_eq_false] at hh
        obtain ⟨s, hs, hne⟩ := hh
        refine hne ?_
        rw [at_hor (h.take _) (by rw [List.length_take]; omega) (fun s hs => hl s (List.mem_of_mem_take hs)), hl s hs]
        simp
end Go.Proofs.Ytpcodholllaceaa
