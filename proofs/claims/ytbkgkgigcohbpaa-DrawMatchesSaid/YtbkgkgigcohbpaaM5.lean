/- Plain mathematics of draws: in how many outcomes a pair meets, reckoned set by set. No program here. -/
import Derived.Test.YtbkgkgigcohbpaaM4
namespace Go.Proofs.Ytbkgkgigcohbpaa
theorem sumB_nil {f : Nat → Nat} {n : Nat} (h : ∀ t, t < n → f t = 0) : sumB f n = 0 := (sumB_congr h).trans (sumB_zero n)
theorem countP_flat {α : Type} (p : α → Bool) (g : Nat → List α) : ∀ n, ((List.range n).flatMap g).countP p = sumB (fun k => (g k).countP p) n
  | 0 => rfl
  | n + 1 => by rw [List.range_succ, List.flatMap_append, List.countP_append, countP_flat p g n, List.flatMap_singleton, sumB]
theorem countP_const {α : Type} (b : Bool) : ∀ l : List α, l.countP (fun _ => b) = if b then l.length else 0
  | [] => by cases b <;> rfl
  | x :: l => by rw [List.countP_cons, countP_const b l, List.length_cons]; cases b <;> simp
section
variable (may : Nat → Nat → Bool) (n : Nat)
/-- the outcomes that go on from a set and in which club r meets c -/
def cntIn (r c t : Nat) : Nat := if r < pcn t n then 0 else (On may n t).countP fun x => decide (x[r - pcn t n]? = some c)
def okK (s k : Nat) : Bool := !s.testBit k && may (pcn s n) k
/-- what the opponent k of the next club gives at once -/
def gain (r c s k : Nat) : Nat := if r = pcn s n ∧ k = c then Rn may n (wth s k) else 0
def stepC (r c s k : Nat) : Nat := if okK may n s k then gain may n r c s k + cntIn may n r c (wth s k) else 0
def fP (t : Nat) : Nat := fct (n - pcn t n)
def stepF (s k : Nat) : Nat := if okK may n s k then fP n (wth s k) else 0
variable {may n}
theorem cnt_step {s : Nat} (r c : Nat) (hr : r < n) : sumB (stepC may n r c s) n = cntIn may n r c s := by
  rcases Nat.lt_or_ge (pcn s n) n with hp | hp
  · unfold cntIn
    rcases Nat.lt_or_ge r (pcn s n) with h1 | h1
    · rw [if_pos h1, ← sumB_zero n]
      refine sumB_congr fun k hk => ?_
      unfold stepC okK
      split
      · next hb =>
        rw [Bool.and_eq_true, Bool.not_eq_true'] at hb
        unfold gain cntIn
        rw [if_neg (by omega), if_pos (by rw [pcn_wth hb.1, if_pos hk]; omega)]
      · rfl
    · rw [if_neg (by omega), On_step hp, countP_flat]
      refine sumB_congr fun k hk => ?_
      unfold stepC OnK okK
      split
      · next hb =>
        rw [Bool.and_eq_true, Bool.not_eq_true'] at hb
        rw [List.countP_map]
        unfold gain cntIn
        rw [pcn_wth hb.1, if_pos hk]
        rcases Nat.lt_or_ge (pcn s n) r with h2 | h2
        · rw [if_neg (show ¬ (r = pcn s n ∧ k = c) by omega), if_neg (show ¬ r < pcn s n + 1 by omega), Nat.zero_add]
          congr 1
          funext x
          show decide (x[r - (pcn s n + 1)]? = some c) = decide ((k :: x)[r - pcn s n]? = some c)
          rw [show r - pcn s n = (r - (pcn s n + 1)) + 1 by omega, List.getElem?_cons_succ]
        · obtain rfl : r = pcn s n := by omega
          rw [if_pos (show pcn s n < pcn s n + 1 by omega), Nat.add_zero, ← On_len]
          have e : ((fun x : List Nat => decide (x[pcn s n - pcn s n]? = some c)) ∘ fun x => k :: x) = fun _ => decide (k = c) := by
            funext x
            show decide ((k :: x)[pcn s n - pcn s n]? = some c) = _
            rw [Nat.sub_self, List.getElem?_cons_zero]
            simp
          rw [e, countP_const]
          by_cases hkc : k = c
          · rw [decide_eq_true hkc, if_pos ⟨rfl, hkc⟩]; rfl
          · rw [decide_eq_false hkc, if_neg (fun h => hkc h.2)]; rfl
      · rfl
  · have he : pcn s n = n := Nat.le_antisymm (pcn_le s n) hp
    unfold cntIn
    rw [he, if_pos hr, ← sumB_zero n]
    refine sumB_congr fun k hk => ?_
    unfold stepC okK
    rw [pcn_all he k hk]; rfl
theorem fP_step (s : Nat) : sumB (stepF may n s) n ≤ fP n s := by
  rcases Nat.lt_or_ge (pcn s n) n with hp | hp
  · obtain ⟨f, hf⟩ : ∃ f, n - pcn s n = f + 1 := ⟨n - pcn s n - 1, by omega⟩
    have hfree := free_sum s n
    have h1 : sumB (stepF may n s) n ≤ sumB (fun k => fct f * (if !s.testBit k then 1 else 0)) n := by
      refine sumB_le fun k hk => ?_
      unfold stepF okK
      cases hb : s.testBit k
      · cases hm : may (pcn s n) k
        · simp
        · simp only [Bool.not_false, Bool.and_self, if_pos, Nat.mul_one]
          unfold fP
          rw [pcn_wth hb, if_pos hk, show n - (pcn s n + 1) = f by omega]
          exact Nat.le_refl _
      · simp
    rw [sumB_mul, show sumB (fun k => if !s.testBit k then 1 else 0) n = f + 1 by omega] at h1
    unfold fP
    rw [hf, fct, Nat.mul_comm]
    exact h1
  · have he : pcn s n = n := Nat.le_antisymm (pcn_le s n) hp
    have : sumB (stepF may n s) n = 0 := by
      rw [← sumB_zero n]
      refine sumB_congr fun k hk => ?_
      unfold stepF okK
      rw [pcn_all he k hk]; rfl
    omega
/-- what the sets from a on still give -/
def Sg (P ways : Nat → Nat) (a S : Nat) : Nat := sumB (fun t => if a ≤ t then ways t * P t else 0) S
def updW (ways : Nat → Nat) (t x : Nat) : Nat → Nat := fun q => if q = t then x else ways q
theorem Sg_split (P ways : Nat → Nat) (s : Nat) : ∀ S, s < S → Sg P ways s S = ways s * P s + Sg P ways (s + 1) S
  | 0, h => absurd h (by omega)
  | S + 1, h => by
    unfold Sg
    rw [sumB, sumB]
    rcases Nat.lt_or_ge s S with h1 | h1
    · have := Sg_split P ways s S h1
      unfold Sg at this
      rw [this, if_pos (by omega), if_pos (by omega)]
      omega
    · obtain rfl : s = S := by omega
      rw [if_pos (Nat.le_refl _), if_neg (by omega)]
      have e1 : sumB (fun t => if s ≤ t then ways t * P t else 0) s = 0 := sumB_nil fun t ht => if_neg (show ¬ _ ≤ t by omega)
      have e2 : sumB (fun t => if s + 1 ≤ t then ways t * P t else 0) s = 0 := sumB_nil fun t ht => if_neg (show ¬ _ ≤ t by omega)
      rw [e1, e2]; omega
theorem Sg_end (P ways : Nat → Nat) (S : Nat) : Sg P ways S S = 0 := by
  exact sumB_nil fun t ht => if_neg (show ¬ S ≤ t by omega)
theorem Sg_upd (P ways : Nat → Nat) {a t x : Nat} (ha : a ≤ t) : ∀ S, t < S → Sg P (updW ways t (ways t + x)) a S = Sg P ways a S + x * P t
  | 0, h => absurd h (by omega)
  | S + 1, h => by
    unfold Sg
    rw [sumB, sumB]
    rcases Nat.lt_or_ge t S with h1 | h1
    · have := Sg_upd P ways (x := x) ha S h1
      unfold Sg at this
      rw [this]
      unfold updW
      rw [if_neg (show ¬ S = t by omega)]
      omega
    · obtain rfl : t = S := by omega
      rw [if_pos ha, if_pos ha]
      have e1 : sumB (fun q => if a ≤ q then updW ways t (ways t + x) q * P q else 0) t = sumB (fun q => if a ≤ q then ways q * P q else 0) t :=
        sumB_congr fun q hq => by unfold updW; rw [if_neg (show ¬ q = t by omega)]
      rw [e1]
      unfold updW
      rw [if_pos rfl, Nat.add_mul]
      omega
theorem Sg_term (P ways : Nat → Nat) {a t S : Nat} (ha : a ≤ t) (hS : t < S) : ways t * P t ≤ Sg P ways a S := by
  have := sumB_term (f := fun q => if a ≤ q then ways q * P q else 0) hS
  simp only [if_pos ha] at this
  exact this
variable (may n)
/-- the table so far and the sets that wait, ahead of the set s -/
structure ChO (Tn : Nat → Nat → Nat) (ways : Nat → Nat) (T : Nat → Nat → Nat) (s S : Nat) : Prop where
  J : ∀ r c, r < n → T r c + Sg (cntIn may n r c) ways s S = Tn r c
  K : Sg (fP n) ways s S ≤ fct n
/-- the same within the set s, ahead of the opponent k -/
structure ChI (Tn : Nat → Nat → Nat) (ways : Nat → Nat) (T : Nat → Nat → Nat) (s k S : Nat) : Prop where
  J : ∀ r c, r < n → T r c + Sg (cntIn may n r c) ways (s + 1) S + ways s * cntIn may n r c s = Tn r c + ways s * sumB (stepC may n r c s) k
  K : Sg (fP n) ways (s + 1) S + ways s * fP n s ≤ fct n + ways s * sumB (stepF may n s) k
variable {may n}
theorem ChO.into {Tn T : Nat → Nat → Nat} {ways : Nat → Nat} {s S : Nat} (h : ChO may n Tn ways T s S) (hs : s < S) : ChI may n Tn ways T s 0 S := by
  refine ⟨fun r c hr => ?_, ?_⟩
  · have := h.J r c hr
    rw [Sg_split _ _ _ _ hs] at this
    rw [sumB]; omega
  · have := h.K
    rw [Sg_split _ _ _ _ hs] at this
    rw [sumB]; omega
theorem ChO.skip {Tn T : Nat → Nat → Nat} {ways : Nat → Nat} {s S : Nat} (h : ChO may n Tn ways T s S) (hs : s < S) (h0 : ways s = 0) : ChO may n Tn ways T (s + 1) S := by
  refine ⟨fun r c hr => ?_, ?_⟩
  · have := h.J r c hr
    rw [Sg_split _ _ _ _ hs, h0] at this
    omega
  · have := h.K
    rw [Sg_split _ _ _ _ hs, h0] at this
    omega
theorem ChI.out {Tn T : Nat → Nat → Nat} {ways : Nat → Nat} {s S : Nat} (h : ChI may n Tn ways T s n S) : ChO may n Tn ways T (s + 1) S := by
  refine ⟨fun r c hr => ?_, ?_⟩
  · have := h.J r c hr
    rw [cnt_step r c hr] at this
    omega
  · have := h.K
    have h2 := Nat.mul_le_mul_left (ways s) (fP_step (may := may) (n := n) s)
    omega
theorem ChI.no {Tn T : Nat → Nat → Nat} {ways : Nat → Nat} {s k S : Nat} (h : ChI may n Tn ways T s k S) (hk : okK may n s k = false) : ChI may n Tn ways T s (k + 1) S := by
  refine ⟨fun r c hr => ?_, ?_⟩
  · have := h.J r c hr
    rw [sumB, show stepC may n r c s k = 0 by unfold stepC; rw [hk]; rfl, Nat.add_zero]
    exact this
  · have := h.K
    rw [sumB, show stepF may n s k = 0 by unfold stepF; rw [hk]; rfl, Nat.add_zero]
    exact this
def updT (T : Nat → Nat → Nat) (r c x : Nat) : Nat → Nat → Nat := fun a b => if a = r ∧ b = c then x else T a b
theorem ChI.yes {Tn T : Nat → Nat → Nat} {ways : Nat → Nat} {s k S : Nat} (h : ChI may n Tn ways T s k S) (hk : okK may n s k = true) (hS : wth s k < S) :
    ChI may n Tn (updW ways (wth s k) (ways (wth s k) + ways s)) (updT T (pcn s n) k (T (pcn s n) k + ways s * Rn may n (wth s k))) s (k + 1) S := by
  have hb : s.testBit k = false := by unfold okK at hk; rw [Bool.and_eq_true, Bool.not_eq_true'] at hk; exact hk.1
  have hgt := wth_gt hb
  have e : updW ways (wth s k) (ways (wth s k) + ways s) s = ways s := by unfold updW; rw [if_neg (by omega)]
  refine ⟨fun r c hr => ?_, ?_⟩
  · have := h.J r c hr
    rw [e, Sg_upd _ _ (by omega) S hS, sumB, show stepC may n r c s k = gain may n r c s k + cntIn may n r c (wth s k) by unfold stepC; rw [hk]; rfl, Nat.mul_add, Nat.mul_add]
    unfold updT gain
    by_cases hrc : r = pcn s n ∧ c = k
    · rw [if_pos hrc, if_pos ⟨hrc.1, hrc.2.symm⟩, ← hrc.1, ← hrc.2]
      rw [hrc.2] at this ⊢
      omega
    · rw [if_neg hrc, if_neg (fun hh => hrc ⟨hh.1, hh.2.symm⟩)]
      omega
  · have := h.K
    rw [e, Sg_upd _ _ (by omega) S hS, sumB, show stepF may n s k = fP n (wth s k) by unfold stepF; rw [hk]; rfl, Nat.mul_add]
    omega
theorem sum_le {f : Nat → Nat} {k : Nat} (h : k ≤ n) : sumB f k ≤ sumB f n := sumB_mono h
/-- nothing overflows -/
theorem ChI.bounds {Tn T : Nat → Nat → Nat} {ways : Nat → Nat} {s k S : Nat} (h : ChI may n Tn ways T s k S) (hk : k < n) (ho : okK may n s k = true) (hS : wth s k < S) (hi : pcn s n < n) :
    ways (wth s k) + ways s ≤ fct n ∧ T (pcn s n) k + ways s * Rn may n (wth s k) ≤ Tn (pcn s n) k := by
  have hy := h.yes ho hS
  have hb : s.testBit k = false := by unfold okK at ho; rw [Bool.and_eq_true, Bool.not_eq_true'] at ho; exact ho.1
  have hgt := wth_gt hb
  have e : updW ways (wth s k) (ways (wth s k) + ways s) s = ways s := by unfold updW; rw [if_neg (by omega)]
  have e2 : updW ways (wth s k) (ways (wth s k) + ways s) (wth s k) = ways (wth s k) + ways s := by unfold updW; rw [if_pos rfl]
  constructor
  · have h1 := hy.K
    have h2 := Sg_term (fP n) (updW ways (wth s k) (ways (wth s k) + ways s)) (show s + 1 ≤ wth s k by omega) hS
    rw [e2] at h2
    rw [e] at h1
    have h3 := Nat.mul_le_mul_left (ways s) (Nat.le_trans (sumB_mono (f := stepF may n s) (show k + 1 ≤ n by omega)) (fP_step (may := may) (n := n) s))
    have h4 : ways (wth s k) + ways s ≤ (ways (wth s k) + ways s) * fP n (wth s k) := Nat.le_mul_of_pos_right _ (fct_pos _)
    omega
  · have h1 := hy.J (pcn s n) k hi
    rw [e] at h1
    have h3 := Nat.mul_le_mul_left (ways s) (Nat.le_trans (sumB_mono (f := stepC may n (pcn s n) k s) (show k + 1 ≤ n by omega)) (Nat.le_of_eq (cnt_step (may := may) (pcn s n) k hi)))
    have h5 : updT T (pcn s n) k (T (pcn s n) k + ways s * Rn may n (wth s k)) (pcn s n) k = T (pcn s n) k + ways s * Rn may n (wth s k) := by unfold updT; rw [if_pos ⟨rfl, rfl⟩]
    rw [h5] at h1
    omega
/-- in how many outcomes club r meets c -/
def Tn0 (may : Nat → Nat → Bool) (n r c : Nat) : Nat := (On may n 0).countP fun x => decide (x[r]? = some c)
theorem ChO.start {S : Nat} (hS : 0 < S) : ChO may n (Tn0 may n) (updW (fun _ => 0) 0 1) (fun _ _ => 0) 0 S := by
  have h0 : ∀ (P : Nat → Nat) (a : Nat), Sg P (fun _ => 0) a S = 0 := fun P a => by
    refine sumB_nil fun t _ => ?_
    rw [Nat.zero_mul]; split <;> rfl
  have hh : ∀ P : Nat → Nat, Sg P (updW (fun _ => 0) 0 1) 0 S = P 0 := fun P => by
    have := Sg_upd P (fun _ => 0) (a := 0) (t := 0) (x := 1) (Nat.le_refl _) S hS
    rw [h0, Nat.zero_add, Nat.one_mul, Nat.zero_add] at this
    exact this
  refine ⟨fun r c _ => ?_, ?_⟩
  · rw [hh, Nat.zero_add]
    unfold cntIn Tn0
    rw [pcn_zero, if_neg (by omega), Nat.sub_zero]
  · rw [hh]
    unfold fP
    rw [pcn_zero, Nat.sub_zero]
    exact Nat.le_refl _
theorem Tn0_le (r c : Nat) : Tn0 may n r c ≤ Rn may n 0 := by
  unfold Tn0; rw [← On_len]; exact List.countP_le_length
theorem ChO.done {Tn T : Nat → Nat → Nat} {ways : Nat → Nat} {S : Nat} (h : ChO may n Tn ways T S S) {r c : Nat} (hr : r < n) : T r c = Tn r c := by
  have := h.J r c hr
  rw [Sg_end] at this
  omega
end
end Go.Proofs.Ytbkgkgigcohbpaa
