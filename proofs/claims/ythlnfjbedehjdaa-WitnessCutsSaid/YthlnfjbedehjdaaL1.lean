/- Each game gives two half wins: what a cut shows for every completion. No program here. -/
import Derived.Test.YthlnfjbedehjdaaZc
namespace Go.Proofs.Ythlnfjbedehjdaa
/-- half wins of club i in one game -/
def half (e : Int × Int) (o i : Int) : Nat :=
  if o = 1 then (if i = e.1 then 2 else 0) else if o = 3 then (if i = e.2 then 2 else 0) else (if i = e.1 then 1 else 0) + (if i = e.2 then 1 else 0)
/-- half wins of club i in the first k games -/
def halfTo (q : RaceD) (outs : Nat → Int) (i : Int) : Nat → Nat
  | 0 => 0
  | k + 1 => halfTo q outs i k + half (nthE q.opn k) (outs k) i
theorem nthI_addP {p : List Int} {a x : Int} {i : Nat} (ha : 0 ≤ a) (hl : a < p.length) : nthI (addP p a x) i = nthI p i + if (i : Int) = a then x else 0 := by
  unfold addP
  rw [nthI_set]
  by_cases h : (i : Int) = a
  · have h1 : a.toNat = i := by omega
    rw [if_pos h, if_pos ⟨h1, by omega⟩, h1]
  · rw [if_neg h, if_neg (fun e => h (by omega)), Int.add_zero]
theorem nthE_mem {q : RaceD} {k : Nat} (hk : k < q.opn.length) : nthE q.opn k ∈ q.opn := by
  unfold nthE; rw [List.getD_eq_getElem?_getD, List.getElem?_eq_getElem hk]; exact List.getElem_mem hk
theorem edge_at {q : RaceD} (h : ValidR q) {k : Nat} (hk : k < q.opn.length) : EdgeR q.clubs.length (nthE q.opn k) := h.edge _ (nthE_mem hk)
theorem finTo_half {q : RaceD} (h : ValidR q) (hw : q.win = 2 * q.draw) (outs : Nat → Int) (i : Nat) : ∀ k, k ≤ q.opn.length → nthI (finTo q outs k) i = nthI q.points i + q.draw * (halfTo q outs i k : Int)
  | 0, _ => by show nthI q.points i = _ + q.draw * ((0 : Nat) : Int); omega
  | k + 1, hk => by
    have ih := finTo_half h hw outs i k (by omega)
    obtain ⟨⟨a0, a1⟩, ⟨b0, b1⟩, hne⟩ := edge_at h (k := k) (by omega)
    have hl : (finTo q outs k).length = q.clubs.length := by rw [finTo_length, h.size.pts]
    show nthI (playR q (finTo q outs k) (nthE q.opn k) (outs k)) i = nthI q.points i + q.draw * ((halfTo q outs i k + half (nthE q.opn k) (outs k) i : Nat) : Int)
    rw [Int.natCast_add, Int.mul_add, ← Int.add_assoc, ← ih]
    unfold playR half
    by_cases h1 : outs k = 1
    · rw [if_pos h1, if_pos h1, nthI_addP a0 (by omega)]
      by_cases e : (i : Int) = (nthE q.opn k).1
      · rw [if_pos e, if_pos e]; omega
      · rw [if_neg e, if_neg e]; omega
    · rw [if_neg h1, if_neg h1]
      by_cases h3 : outs k = 3
      · rw [if_pos h3, if_pos h3, nthI_addP b0 (by omega)]
        by_cases e : (i : Int) = (nthE q.opn k).2
        · rw [if_pos e, if_pos e]; omega
        · rw [if_neg e, if_neg e]; omega
      · rw [if_neg h3, if_neg h3, nthI_addP b0 (by rw [addP_length]; omega), nthI_addP a0 (by omega)]
        by_cases e : (i : Int) = (nthE q.opn k).1
        · by_cases e2 : (i : Int) = (nthE q.opn k).2
          · exact absurd (e.symm.trans e2) hne
          · rw [if_pos e, if_neg e2, if_pos e, if_neg e2]; omega
        · by_cases e2 : (i : Int) = (nthE q.opn k).2
          · rw [if_neg e, if_pos e2, if_neg e, if_pos e2]; omega
          · rw [if_neg e, if_neg e2, if_neg e, if_neg e2]; omega
/-- what the clubs of a list gain together -/
def sumH (f : Int → Nat) (l : List Int) : Nat := (l.map f).sum
theorem sumH_add (f g : Int → Nat) (l : List Int) : sumH (fun i => f i + g i) l = sumH f l + sumH g l := by
  unfold sumH
  induction l with
  | nil => rfl
  | cons x l ih => simp only [List.map_cons, List.sum_cons, ih]; omega
theorem sumH_one (a : Int) (c : Nat) (l : List Int) : sumH (fun i => if i = a then c else 0) l = c * l.count a := by
  unfold sumH
  induction l with
  | nil => rfl
  | cons x l ih =>
    simp only [List.map_cons, List.sum_cons, ih, List.count_cons]
    by_cases e : x = a
    · rw [if_pos e, if_pos (by simp [e]), Nat.mul_add]; omega
    · rw [if_neg e, if_neg (by simpa using e), Nat.add_zero, Nat.zero_add]
/-- a set of rivals has no element twice -/
theorem set_nodup {q : RaceD} {l : List Int} (h : setB q l = true) : l.Nodup := by
  have hs : ∀ k, k < l.length → ∀ j, j < k → nthI l j < nthI l k := by
    intro k
    induction k with
    | zero => intro _ j hj; omega
    | succ k ih =>
      intro hk j hj
      have h1 := (set_ok h (k := k + 1) hk).2.2.2 (by omega)
      rw [Nat.add_sub_cancel] at h1
      rcases Nat.lt_or_ge j k with h2 | h2
      · have := ih (by omega) j h2; omega
      · rw [show j = k by omega]; exact h1
  unfold List.Nodup
  rw [List.pairwise_iff_getElem]
  intro i j hi hj hij e
  have := hs j hj i hij
  rw [nthI_get hi, nthI_get hj, e] at this
  omega
theorem count_has {l : List Int} (hn : l.Nodup) (a : Int) : l.count a = if l.contains a then 1 else 0 := by
  by_cases h : a ∈ l
  · rw [if_pos (by simpa using h)]
    have h1 := List.nodup_iff_count.1 hn a
    have h2 := List.count_pos_iff.2 h
    omega
  · rw [if_neg (by simpa using h), List.count_eq_zero]; exact h
/-- one game: a club that counts takes part, or both do -/
theorem half_sum {l : List Int} (hn : l.Nodup) (e : Int × Int) (o : Int) :
    sumH (half e o) l ≤ (if l.contains e.1 || l.contains e.2 then 2 else 0) ∧ (if l.contains e.1 && l.contains e.2 then 2 else 0) ≤ sumH (half e o) l := by
  have h1 := count_has hn e.1
  have h2 := count_has hn e.2
  have hE : sumH (half e o) l = if o = 1 then 2 * l.count e.1 else if o = 3 then 2 * l.count e.2 else l.count e.1 + l.count e.2 := by
    unfold half
    split
    · exact sumH_one _ _ _
    · split
      · exact sumH_one _ _ _
      · rw [sumH_add, sumH_one, sumH_one]; omega
  rw [hE, h1, h2]
  by_cases o1 : o = 1
  · rw [if_pos o1]
    cases l.contains e.1 <;> cases l.contains e.2 <;> simp
  · rw [if_neg o1]
    by_cases o3 : o = 3
    · rw [if_pos o3]
      cases l.contains e.1 <;> cases l.contains e.2 <;> simp
    · rw [if_neg o3]
      cases l.contains e.1 <;> cases l.contains e.2 <;> simp
/-- all games -/
theorem games_len (q : RaceD) (certain : Bool) (cl : List Int) (k : Nat) : (gamesTo q certain cl (k + 1)).length = (gamesTo q certain cl k).length + if hitB q certain cl k then 1 else 0 := by
  by_cases h : hitB q certain cl k = true
  · rw [gamesTo_yes h, List.length_append, if_pos h]; rfl
  · rw [gamesTo_no (by simpa using h), if_neg h]; rfl
theorem half_games {q : RaceD} {l : List Int} (hn : l.Nodup) (outs : Nat → Int) : ∀ k,
    sumH (fun i => halfTo q outs i k) l ≤ 2 * (gamesTo q true l k).length ∧ 2 * (gamesTo q false l k).length ≤ sumH (fun i => halfTo q outs i k) l
  | 0 => by
    have h0 : sumH (fun i => halfTo q outs i 0) l = 0 := by
      unfold sumH halfTo
      induction l with
      | nil => rfl
      | cons x l ih => rw [List.map_cons, List.sum_cons, ih (List.nodup_cons.1 hn).2]
    rw [h0, gamesTo_zero, gamesTo_zero]
    simp
  | k + 1 => by
    obtain ⟨a, b⟩ := half_games (q := q) hn outs k
    obtain ⟨c, d⟩ := half_sum hn (nthE q.opn k) (outs k)
    rw [games_len, games_len]
    have e : sumH (fun i => halfTo q outs i (k + 1)) l = sumH (fun i => halfTo q outs i k) l + sumH (half (nthE q.opn k) (outs k)) l := sumH_add _ _ l
    rw [e]
    unfold hitB
    simp only [Bool.true_and, Bool.false_and, Bool.or_false]
    constructor
    · refine Nat.le_trans (Nat.add_le_add a c) ?_
      cases l.contains (nthE q.opn k).1 <;> cases l.contains (nthE q.opn k).2 <;> simp <;> omega
    · refine Nat.le_trans ?_ (Nat.add_le_add b d)
      cases l.contains (nthE q.opn k).1 <;> cases l.contains (nthE q.opn k).2 <;> simp <;> omega
/-- a sum of gains against a sum of counts -/
theorem sumTo_le {q : RaceD} {certain : Bool} {l : List Int} {f : Int → Int} (h : ∀ j, j < l.length → countR q certain (nthI l j) ≤ f (nthI l j)) : sumTo q certain l l.length ≤ (l.map f).sum := by
  have h2 : ∀ k, k ≤ l.length → sumTo q certain l k ≤ ((l.take k).map f).sum := by
    intro k
    induction k with
    | zero => intro _; simp [sumTo]
    | succ k ih =>
      intro hk
      have h1 := ih (by omega)
      have h3 := h k (by omega)
      rw [List.take_add_one, List.getElem?_eq_getElem (show k < l.length by omega), List.map_append, List.sum_append]
      unfold sumTo
      rw [nthI_get (show k < l.length by omega)] at h3 ⊢
      simp only [Option.toList_some, List.map_cons, List.map_nil, List.sum_cons, List.sum_nil]
      omega
  have := h2 l.length (Nat.le_refl _)
  rwa [List.take_length] at this
theorem sumH_int (f : Int → Nat) (l : List Int) : (l.map fun i => (f i : Int)).sum = (sumH f l : Int) := by
  unfold sumH
  induction l with
  | nil => rfl
  | cons x l ih => simp only [List.map_cons, List.sum_cons, ih]; omega
theorem sumH_neg (f : Int → Nat) (l : List Int) : (l.map fun i => -(f i : Int)).sum = -(sumH f l : Int) := by
  unfold sumH
  induction l with
  | nil => rfl
  | cons x l ih => simp only [List.map_cons, List.sum_cons, ih]; omega
/-- the club's own points -/
theorem own_low {q : RaceD} (h : ValidR q) (hw : q.win = 2 * q.draw) (outs : Nat → Int) (k : Nat) (hk : k ≤ q.opn.length) : lowR q ≤ nthI (finTo q outs k) q.club.toNat := by
  rw [finTo_half h hw outs _ k hk]
  have : 0 ≤ q.draw * (halfTo q outs (q.club.toNat : Nat) k : Int) := Int.mul_nonneg h.size.d0 (by omega)
  unfold lowR
  omega
theorem own_high {q : RaceD} (h : ValidR q) (hw : q.win = 2 * q.draw) (outs : Nat → Int) : ∀ k, k ≤ q.opn.length → nthI (finTo q outs k) q.club.toNat ≤ highTo q k
  | 0, _ => Int.le_refl _
  | k + 1, hk => by
    have ih := own_high h hw outs k (by omega)
    have h0 := h.size.c0
    have hd := h.size.d0
    rw [finTo_half h hw outs _ k (by omega)] at ih
    rw [finTo_half h hw outs _ (k + 1) hk]
    show nthI q.points q.club.toNat + q.draw * ((halfTo q outs (q.club.toNat : Nat) k + half (nthE q.opn k) (outs k) (q.club.toNat : Nat) : Nat) : Int) ≤ if ownB q k then highTo q k + q.win else highTo q k
    rw [Int.natCast_add, Int.mul_add]
    obtain ⟨-, -, hne⟩ := edge_at h (k := k) (by omega)
    have hc : ((q.club.toNat : Nat) : Int) = q.club := by omega
    have hb : ((half (nthE q.opn k) (outs k) (q.club.toNat : Nat) : Nat) : Int) ≤ if ownB q k then 2 else 0 := by
      unfold half ownB
      rw [hc]
      by_cases e1 : (nthE q.opn k).1 = q.club
      · have e2 : ¬ q.club = (nthE q.opn k).2 := fun e => hne (e1.trans e)
        simp only [e1, e2, decide_true, Bool.true_or, if_true, if_false]
        split <;> (try split) <;> simp
      · by_cases e2 : (nthE q.opn k).2 = q.club
        · have e3 : ¬ q.club = (nthE q.opn k).1 := fun e => e1 e.symm
          simp only [e2, e3, decide_true, Bool.or_true, if_true, if_false]
          split <;> (try split) <;> simp
        · have e3 : ¬ q.club = (nthE q.opn k).1 := fun e => e1 e.symm
          have e4 : ¬ q.club = (nthE q.opn k).2 := fun e => e2 e.symm
          simp only [e1, e2, e3, e4, decide_false, Bool.or_false, if_false]
          split <;> (try split) <;> simp
    have hm := Int.mul_le_mul_of_nonneg_left hb hd
    by_cases ho : ownB q k = true
    · rw [if_pos ho] at hm ⊢
      omega
    · rw [if_neg ho] at hm ⊢
      omega
/-- P29.2: a cut that fits shows it for every completion -/
theorem cut_shows {q : RaceD} {certain : Bool} {c : CutD} (hv : ValidR q) (hf : FitR q certain c) (outs : Nat → Int) :
    ∃ i : Nat, i < q.clubs.length ∧ (i : Int) ≠ q.club ∧ c.free.contains (i : Int) = certain ∧
      (if certain then nthI (finTo q outs q.opn.length) i < nthI (finTo q outs q.opn.length) q.club.toNat else nthI (finTo q outs q.opn.length) q.club.toNat < nthI (finTo q outs q.opn.length) i) := by
  have hh := hf.halves
  unfold halvesB at hh
  simp only [Bool.and_eq_true, decide_eq_true_eq] at hh
  obtain ⟨hd, hw⟩ := hh
  refine Classical.byContradiction fun hno => ?_
  have hno : ∀ i : Nat, i < q.clubs.length → (i : Int) ≠ q.club → c.free.contains (i : Int) = certain → ¬ (if certain then nthI (finTo q outs q.opn.length) i < nthI (finTo q outs q.opn.length) q.club.toNat else nthI (finTo q outs q.opn.length) q.club.toNat < nthI (finTo q outs q.opn.length) i) := fun i h1 h2 h3 h4 => hno ⟨i, h1, h2, h3, h4⟩
  have hset := hf.clubs
  have hn := set_nodup hset
  obtain ⟨g1, g2⟩ := half_games (q := q) hn outs q.opn.length
  have hlow := own_low hv hw outs q.opn.length (Nat.le_refl _)
  have hhigh := own_high hv hw outs q.opn.length (Nat.le_refl _)
  have hover := hf.over
  unfold overB at hover
  rw [decide_eq_true_eq] at hover
  cases certain with
  | true =>
    simp only [if_true] at hover hno
    have hs : sumTo q true c.clubs c.clubs.length ≤ (c.clubs.map fun i => (halfTo q outs i q.opn.length : Int)).sum := sumTo_le fun j hj => by
      obtain ⟨s0, s1, s2, -⟩ := set_ok hset hj
      obtain ⟨i, hi⟩ : ∃ i : Nat, nthI c.clubs j = (i : Int) := ⟨(nthI c.clubs j).toNat, by omega⟩
      have hside := hf.side j hj
      rw [hi] at s0 s1 s2 hside ⊢
      have h1 := hno i (by omega) s2 hside
      show needR q (i : Int) ≤ _
      have h2 := finTo_half hv hw outs i q.opn.length (Nat.le_refl _)
      rw [h2] at h1
      unfold needR
      rw [Int.toNat_natCast]
      refine Int.max_le.2 ⟨by omega, ?_⟩
      have h3 : -(halfTo q outs (i : Int) q.opn.length : Int) ≤ (nthI q.points i - lowR q) / q.draw := by
        refine Int.le_ediv_of_mul_le hd ?_
        rw [Int.neg_mul, Int.mul_comm]
        omega
      omega
    rw [sumH_int] at hs
    omega
  | false =>
    simp only [Bool.false_eq_true, if_false] at hover hno
    have hs : sumTo q false c.clubs c.clubs.length ≤ (c.clubs.map fun i => -(halfTo q outs i q.opn.length : Int)).sum := sumTo_le fun j hj => by
      obtain ⟨s0, s1, s2, -⟩ := set_ok hset hj
      obtain ⟨i, hi⟩ : ∃ i : Nat, nthI c.clubs j = (i : Int) := ⟨(nthI c.clubs j).toNat, by omega⟩
      have hside := hf.side j hj
      rw [hi] at s0 s1 s2 hside ⊢
      have h1 := hno i (by omega) s2 hside
      show -roomR q (i : Int) ≤ _
      have h2 := finTo_half hv hw outs i q.opn.length (Nat.le_refl _)
      rw [h2] at h1
      unfold roomR
      rw [Int.toNat_natCast]
      have h3 : (halfTo q outs (i : Int) q.opn.length : Int) ≤ (highR q - nthI q.points i) / q.draw := by
        refine Int.le_ediv_of_mul_le hd ?_
        rw [Int.mul_comm]
        unfold highR
        omega
      omega
    rw [sumH_neg] at hs
    omega
end Go.Proofs.Ythlnfjbedehjdaa
