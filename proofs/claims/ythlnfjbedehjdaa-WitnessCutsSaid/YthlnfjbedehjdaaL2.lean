/- What a verdict shows holds for every completion. No program here. -/
import Derived.Test.YthlnfjbedehjdaaL1
import Derived.Test.YthlnfjbedehjdaaC10
namespace Go.Proofs.Ythlnfjbedehjdaa
theorem comb_mem : ∀ (l s : List Int), s.Sublist l → s ∈ comb l s.length
  | _, _, .slnil => by show ([] : List Int) ∈ comb [] 0; rw [comb_zero]; simp
  | x :: l, s, .cons _ h => by
    have ih := comb_mem l s h
    match s, ih with
    | [], _ => show ([] : List Int) ∈ comb (x :: l) 0; rw [comb_zero]; simp
    | y :: s, ih => rw [List.length_cons, comb_cons, List.mem_append]; exact .inr ih
  | x :: l, _, .cons_cons (l₁ := s) _ h => by
    have ih := comb_mem l s h
    rw [List.length_cons, comb_cons, List.mem_append]
    exact .inl (List.mem_map.2 ⟨s, ih, rfl⟩)
/-- a part of a list lies in a part of any length between -/
theorem sub_between : ∀ (R M : List Int), M.Sublist R → ∀ k, M.length ≤ k → k ≤ R.length → ∃ F : List Int, M.Sublist F ∧ F.Sublist R ∧ F.length = k
  | _, _, .slnil, k, _, h2 => ⟨[], .slnil, .slnil, by simp at h2; omega⟩
  | x :: R, M, .cons _ h, k, h1, h2 => by
    rcases Nat.lt_or_ge R.length k with h3 | h3
    · refine ⟨x :: R, h.cons x, List.Sublist.refl _, ?_⟩
      rw [List.length_cons] at h2 ⊢
      omega
    · obtain ⟨F, f1, f2, f3⟩ := sub_between R M h k h1 h3
      exact ⟨F, f1, f2.cons x, f3⟩
  | x :: R, _, .cons_cons (l₁ := M) _ h, k, h1, h2 => by
    rw [List.length_cons] at h1 h2
    obtain ⟨F, f1, f2, f3⟩ := sub_between R M h (k - 1) (by omega) (by omega)
    exact ⟨x :: F, f1.cons_cons x, f2.cons_cons x, by rw [List.length_cons]; omega⟩
/-- the rivals that a test holds for -/
def pickR (q : RaceD) (t : Nat → Bool) : List Int := ((List.range q.clubs.length).filter fun (i : Nat) => decide ((i : Int) ≠ q.club) && t i).map fun (i : Nat) => (i : Int)
theorem pickR_sub (q : RaceD) (t : Nat → Bool) : (pickR q t).Sublist (rivR q) := by
  unfold pickR rivR rivTo
  refine List.Sublist.map _ ?_
  have : ((List.range q.clubs.length).filter fun (i : Nat) => decide ((i : Int) ≠ q.club) && t i) = ((List.range q.clubs.length).filter fun (i : Nat) => decide ((i : Int) ≠ q.club)).filter t := by
    rw [List.filter_filter]
    congr 1
    funext i
    exact Bool.and_comm _ _
  rw [this]
  exact List.filter_sublist
theorem pickR_mem {q : RaceD} {t : Nat → Bool} {i : Nat} : (i : Int) ∈ pickR q t ↔ i < q.clubs.length ∧ (i : Int) ≠ q.club ∧ t i = true := by
  unfold pickR
  rw [List.mem_map]
  constructor
  · rintro ⟨j, hj, e⟩
    rw [List.mem_filter, List.mem_range, Bool.and_eq_true, decide_eq_true_eq] at hj
    obtain rfl : j = i := Int.ofNat.inj e
    exact ⟨hj.1, hj.2.1, hj.2.2⟩
  · rintro ⟨h1, h2, h3⟩
    exact ⟨i, by rw [List.mem_filter, List.mem_range, Bool.and_eq_true, decide_eq_true_eq]; exact ⟨h1, h2, h3⟩, rfl⟩
theorem pickR_len (q : RaceD) (t : Nat → Bool) : (pickR q t).length = (List.range q.clubs.length).countP fun (i : Nat) => decide ((i : Int) ≠ q.club) && t i := by
  unfold pickR; rw [List.length_map, List.countP_eq_length_filter]
/-- cuts of all sets: each set has one -/
theorem cuts_have {q : RaceD} {certain : Bool} {cs : List CutD} (h : cutsB q certain cs = true) {s : List Int} (hs : s.Sublist (rivR q)) (hl : (s.length : Int) = sizeK q certain) : ∃ c, c.free = s ∧ FitR q certain c := by
  unfold cutsB at h
  rw [Bool.and_eq_true, decide_eq_true_eq, List.all_eq_true] at h
  have h1 := comb_mem _ s hs
  rw [show s.length = (sizeK q certain).toNat by omega, ← h.1, List.mem_map] at h1
  obtain ⟨c, hc, e⟩ := h1
  exact ⟨c, e, of_decide_eq_true (h.2 c hc)⟩
/-- the place is kept with cuts, whatever the outcomes -/
theorem cuts_certain {q : RaceD} {cs : List CutD} (hv : ValidR q) (h : cutsB q true cs = true) (outs : Nat → Int) : (manyR q (finTo q outs q.opn.length) : Int) < q.place := by
  refine Classical.byContradiction fun hno => ?_
  obtain ⟨p, hp⟩ : ∃ p, p = finTo q outs q.opn.length := ⟨_, rfl⟩
  rw [← hp] at hno
  have hpl : p.length = q.clubs.length := by rw [hp, finTo_length, hv.size.pts]
  have hL : (pickR q fun i => decide (nthI p q.club.toNat ≤ nthI p i)).length = manyR q p := by
    rw [pickR_len]; unfold manyR manyTo; rw [hpl]
  have hp1 := hv.size.p1
  obtain ⟨S, hS⟩ : ∃ S, S = (pickR q fun i => decide (nthI p q.club.toNat ≤ nthI p i)).take q.place.toNat := ⟨_, rfl⟩
  have hSL : (S.length : Int) = sizeK q true := by
    rw [hS, List.length_take, hL]
    show _ = q.place
    omega
  obtain ⟨c, hc, hf⟩ := cuts_have h (s := S) (by rw [hS]; exact (List.take_sublist _ _).trans (pickR_sub _ _)) hSL
  obtain ⟨i, h1, h2, h3, h4⟩ := cut_shows hv hf outs
  rw [if_pos rfl, ← hp] at h4
  rw [hc, hS, List.contains_iff_mem] at h3
  have h5 := (pickR_mem.1 (List.mem_of_mem_take h3)).2.2
  rw [decide_eq_true_eq] at h5
  omega
theorem cuts_out {q : RaceD} {cs : List CutD} (hv : ValidR q) (h : cutsB q false cs = true) (outs : Nat → Int) : q.place ≤ (moreR q (finTo q outs q.opn.length) : Int) := by
  refine Classical.byContradiction fun hno => ?_
  obtain ⟨p, hp⟩ : ∃ p, p = finTo q outs q.opn.length := ⟨_, rfl⟩
  rw [← hp] at hno
  have hpl : p.length = q.clubs.length := by rw [hp, finTo_length, hv.size.pts]
  have hL : (pickR q fun i => decide (nthI p q.club.toNat < nthI p i)).length = moreR q p := by
    rw [pickR_len]; unfold moreR moreTo; rw [hpl]
  have hp1 := hv.size.p1
  have hpn := hv.size.pn
  have hr : (rivR q).length + 1 = q.clubs.length := rivTo_lt hv.size.c0 hv.size.cn
  obtain ⟨F, f1, f2, f3⟩ := sub_between _ _ (pickR_sub q fun i => decide (nthI p q.club.toNat < nthI p i)) (q.place - 1).toNat (by rw [hL]; omega) (by omega)
  obtain ⟨c, hc, hf⟩ := cuts_have h (s := F) f2 (by rw [f3]; show _ = q.place - 1; omega)
  obtain ⟨i, h1, h2, h3, h4⟩ := cut_shows hv hf outs
  rw [if_neg (by simp), ← hp] at h4
  rw [hc] at h3
  have h5 : (i : Int) ∈ F := f1.subset (pickR_mem.2 ⟨h1, h2, decide_eq_true h4⟩)
  rw [← List.contains_iff_mem, h3] at h5
  cases h5
theorem finTo_congr {q : RaceD} {f g : Nat → Int} : ∀ k, (∀ i, i < k → f i = g i) → finTo q f k = finTo q g k
  | 0, _ => rfl
  | k + 1, h => by
    unfold finTo
    rw [finTo_congr k (fun i hi => h i (by omega)), h k (by omega)]
/-- P29.3, P29.4: what is shown holds for every completion -/
theorem shown_kept {q : RaceD} {certain : Bool} {x : VerD} (hv : ValidR q) (h : shownB q certain x = true) (outs : Nat → Int) (ho : ∀ i, i < q.opn.length → 1 ≤ outs i ∧ outs i ≤ 3) :
    if certain then (manyR q (finTo q outs q.opn.length) : Int) < q.place else q.place ≤ (moreR q (finTo q outs q.opn.length) : Int) := by
  unfold shownB at h
  rw [Bool.and_eq_true] at h
  have h := h.2
  by_cases hh : halvesB q = true
  · rw [if_pos hh] at h
    cases certain with
    | true => exact cuts_certain hv h outs
    | false => exact cuts_out hv h outs
  · rw [if_neg hh, Bool.and_eq_true] at h
    have h := h.2
    unfold alwaysB at h
    rw [List.all_eq_true] at h
    have e : ∀ i, i < q.opn.length → nthI ((List.range q.opn.length).map outs) i = outs i := fun i hi => by
      unfold nthI
      rw [List.getD_eq_getElem?_getD, List.getElem?_map, List.getElem?_range hi]; rfl
    have h1 := h ((List.range q.opn.length).map outs) ((allO_mem _ _).2 ⟨by simp, fun y hy => by
      obtain ⟨i, hi, rfl⟩ := List.mem_map.1 hy
      exact ho i (List.mem_range.1 hi)⟩)
    unfold keptB finR at h1
    rw [finTo_congr _ e] at h1
    cases certain with
    | true => simpa using h1
    | false => simpa using h1
end Go.Proofs.Ythlnfjbedehjdaa
