/- Plain mathematics of draws: the chances of a club add up. No program here. -/
import Derived.Test.YtbkgkgigcohbpaaN1
namespace Go.Proofs.Ytbkgkgigcohbpaa
theorem sumB_one {c0 : Nat} : ∀ {n : Nat}, c0 < n → sumB (fun c => if c0 = c then 1 else 0) n = 1
  | 0, h => absurd h (by omega)
  | n + 1, h => by
    rw [sumB]
    rcases Nat.lt_or_ge c0 n with h1 | h1
    · rw [sumB_one h1, if_neg (by omega)]
    · obtain rfl : c0 = n := by omega
      rw [if_pos rfl, sumB_nil (fun t ht => if_neg (by omega))]
theorem sumB_swap (g : Nat → Nat → Nat) (m : Nat) : ∀ n, sumB (fun r => sumB (g r) m) n = sumB (fun c => sumB (fun r => g r c) n) m
  | 0 => (sumB_zero m).symm
  | n + 1 => by
    rw [sumB, sumB_swap g m n, ← sumB_add]
    rfl
theorem sumB_uniq {f : Nat → Nat} : ∀ {n : Nat}, (∀ r, r < n → f r ≤ 1) → (∀ r q, r < n → q < n → f r = 1 → f q = 1 → r = q) → sumB f n ≤ 1
  | 0, _, _ => Nat.zero_le _
  | n + 1, h1, h2 => by
    have ih := sumB_uniq (n := n) (fun r hr => h1 r (by omega)) (fun r q hr hq => h2 r q (by omega) (by omega))
    have hn := h1 n (by omega)
    rw [sumB]
    rcases Nat.lt_or_ge (f n) 1 with h | h
    · omega
    · have : sumB f n = 0 := sumB_nil fun r hr => by
        have hr1 := h1 r (by omega)
        rcases Nat.lt_or_ge (f r) 1 with h3 | h3
        · omega
        · have := h2 r n (by omega) (by omega) (by omega) (by omega)
          omega
      omega
theorem sumB_full {f : Nat → Nat} : ∀ {n : Nat}, (∀ c, c < n → f c ≤ 1) → sumB f n = n → ∀ c, c < n → f c = 1
  | 0, _, _, c, hc => absurd hc (by omega)
  | n + 1, h1, h2, c, hc => by
    have hle : sumB f n ≤ n := by
      have := sumB_le (f := f) (g := fun _ => 1) (n := n) (fun k hk => h1 k (by omega))
      have e : sumB (fun _ => 1) n = n := by
        clear h1 h2 hc this
        induction n with
        | zero => rfl
        | succ n ih => rw [sumB, ih]
      omega
    have hn := h1 n (by omega)
    rw [sumB] at h2
    rcases Nat.lt_or_ge c n with h | h
    · exact sumB_full (n := n) (fun k hk => h1 k (by omega)) (by omega) c h
    · rw [show c = n by omega]; omega
theorem countP_sum (p : Nat → List Nat → Bool) (n : Nat) : ∀ {L : List (List Nat)}, (∀ x ∈ L, sumB (fun c => if p c x then 1 else 0) n = 1) → sumB (fun c => L.countP (p c)) n = L.length
  | [], _ => sumB_nil fun _ _ => rfl
  | x :: L, h => by
    have e : (fun c => (x :: L).countP (p c)) = fun c => L.countP (p c) + (if p c x then 1 else 0) := by
      funext c; exact List.countP_cons
    rw [e, sumB_add, countP_sum p n (fun y hy => h y (List.mem_cons_of_mem _ hy)), h x List.mem_cons_self, List.length_cons]
/-- in an outcome a club of the first pot has one opponent -/
theorem row_one {d : DrawD} {x : List Nat} (hx : x ∈ outsD d) {r : Nat} (hr : r < nD d) : sumB (fun c => if decide (x[r]? = some c) then 1 else 0) (nD d) = 1 := by
  obtain ⟨hl, hok⟩ := outsD_ok hx
  have hr' : r < x.length := by omega
  have := (okL_at hok hr').1
  refine (sumB_congr fun c _ => ?_).trans (sumB_one this)
  rw [List.getElem?_eq_getElem hr']
  by_cases e : x[r] = c
  · rw [if_pos e, if_pos (by rw [e]; simp)]
  · rw [if_neg e, if_neg (by simpa using e)]
/-- and a club of the second pot too -/
theorem col_one {d : DrawD} {x : List Nat} (hx : x ∈ outsD d) {c : Nat} (hc : c < nD d) : sumB (fun r => if decide (x[r]? = some c) then 1 else 0) (nD d) = 1 := by
  obtain ⟨hl, hok⟩ := outsD_ok hx
  refine sumB_full (f := fun c => sumB (fun r => if decide (x[r]? = some c) then 1 else 0) (nD d)) (fun c _ => ?_) ?_ c hc
  · refine sumB_uniq (fun r _ => by split <;> omega) fun r q hr hq h1 h2 => ?_
    have e1 : x[r]? = some c := by
      by_cases e : x[r]? = some c
      · exact e
      · rw [if_neg (by simpa using e)] at h1; cases h1
    have e2 : x[q]? = some c := by
      by_cases e : x[q]? = some c
      · exact e
      · rw [if_neg (by simpa using e)] at h2; cases h2
    obtain ⟨g1, f1⟩ := List.getElem?_eq_some_iff.1 e1
    obtain ⟨g2, f2⟩ := List.getElem?_eq_some_iff.1 e2
    rcases Nat.lt_trichotomy r q with h | h | h
    · exact absurd (f1.trans f2.symm) ((okL_at hok g2).2.2 r h)
    · exact h
    · exact absurd (f2.trans f1.symm) ((okL_at hok g1).2.2 q h)
  · rw [← sumB_swap (fun r c => if decide (x[r]? = some c) then 1 else 0) (nD d) (nD d)]
    have : sumB (fun r => sumB (fun c => if decide (x[r]? = some c) then 1 else 0) (nD d)) (nD d) = sumB (fun _ => 1) (nD d) := sumB_congr fun r hr => row_one hx hr
    rw [this]
    generalize nD d = n
    induction n with
    | zero => rfl
    | succ n ih => rw [sumB, ih]
def Td (d : DrawD) (r c : Nat) : Nat := Tn0 (mayD d) (nD d) r c
theorem Td_row {d : DrawD} {r : Nat} (hr : r < nD d) : sumB (Td d r) (nD d) = Rn (mayD d) (nD d) 0 := by
  rw [← outsD_len]
  exact countP_sum (fun c x => decide (x[r]? = some c)) (nD d) fun x hx => row_one hx hr
theorem Td_col {d : DrawD} {c : Nat} (hc : c < nD d) : sumB (fun r => Td d r c) (nD d) = Rn (mayD d) (nD d) 0 := by
  rw [← outsD_len]
  exact countP_sum (fun r x => decide (x[r]? = some c)) (nD d) fun x hx => col_one hx hc
theorem Td_may {d : DrawD} {r c : Nat} (h : 0 < Td d r c) : mayD d r c = true := by
  obtain ⟨x, hx, hp⟩ := List.countP_pos_iff.1 h
  have hp : x[r]? = some c := of_decide_eq_true hp
  obtain ⟨g, e⟩ := List.getElem?_eq_some_iff.1 hp
  have := (okL_at (outsD_ok hx).2 g).2.1
  rwa [e] at this
theorem chanL_row {d : DrawD} {r : Nat} (hr : r < nD d) : nthR (chanL d) r = (List.range (nD d)).map (Td d r) := by
  unfold nthR chanL
  rw [List.getD_eq_getElem?_getD, List.getElem?_map, List.getElem?_range hr]; rfl
theorem chanL_at {d : DrawD} {r c : Nat} (hr : r < nD d) (hc : c < nD d) : nthN (nthR (chanL d) r) c = Td d r c := by
  rw [chanL_row hr]
  unfold nthN
  rw [List.getD_eq_getElem?_getD, List.getElem?_map, List.getElem?_range hc]; rfl
theorem chanL_len (d : DrawD) : (chanL d).length = nD d := by simp [chanL]
theorem chanL_rowlen {d : DrawD} {r : Nat} (hr : r < nD d) : (nthR (chanL d) r).length = nD d := by rw [chanL_row hr]; simp
end Go.Proofs.Ytbkgkgigcohbpaa
