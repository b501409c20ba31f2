/- Plain mathematics of draws: a pair more is forbidden. No program here. -/
import Derived.Test.YtbkgkgigcohbpaaM7
namespace Go.Proofs.Ytbkgkgigcohbpaa
theorem filter_F {α : Type} : ∀ l : List α, l.filter (fun _ => false) = []
  | [] => rfl
  | _ :: l => by rw [List.filter_cons, filter_F l]; rfl
theorem filter_T {α : Type} : ∀ l : List α, l.filter (fun _ => true) = l
  | [] => rfl
  | _ :: l => by rw [List.filter_cons, filter_T l]; rfl
section
variable {may may' : Nat → Nat → Bool} {n r c : Nat}
/-- club r meets c in what goes on from club i -/
def hits (r c i : Nat) (l : List Nat) : Bool := decide (i ≤ r) && decide (l[r - i]? = some c)
theorem outs_forbid (hm : ∀ i k, i < n → k < n → may' i k = (may i k && !(decide (i = r) && decide (k = c)))) : ∀ f i s, i + f = n → outs may' n f i s = (outs may n f i s).filter fun l => !hits r c i l
  | 0, i, s, h => by
    rw [outs, outs]
    have : hits r c i [] = false := by unfold hits; simp
    rw [List.filter_cons, this]; rfl
  | f + 1, i, s, h => by
    rw [outs, outs, List.filter_flatMap]
    refine flatMap_congr fun k hk => ?_
    rw [hm i k (by omega) hk]
    cases hb : (!s.testBit k && may i k)
    · have : (!s.testBit k && (may i k && !(decide (i = r) && decide (k = c)))) = false := by
        rw [← Bool.and_assoc, hb, Bool.false_and]
      rw [this]; rfl
    · have e : (!s.testBit k && (may i k && !(decide (i = r) && decide (k = c)))) = !(decide (i = r) && decide (k = c)) := by
        rw [← Bool.and_assoc, hb, Bool.true_and]
      rw [e, if_pos rfl, List.filter_map]
      by_cases hir : i = r
      · by_cases hkc : k = c
        · rw [decide_eq_true hir, decide_eq_true hkc]
          have : ((fun l => !hits r c i l) ∘ fun x => k :: x) = fun _ => false := by
            funext x
            unfold hits
            show (!(decide (i ≤ r) && decide ((k :: x)[r - i]? = some c))) = false
            rw [hir, Nat.sub_self, List.getElem?_cons_zero, hkc]; simp
          rw [this, filter_F]; rfl
        · rw [decide_eq_true hir, decide_eq_false hkc]
          have : ((fun l => !hits r c i l) ∘ fun x => k :: x) = fun _ => true := by
            funext x
            unfold hits
            show (!(decide (i ≤ r) && decide ((k :: x)[r - i]? = some c))) = true
            rw [hir, Nat.sub_self, List.getElem?_cons_zero]; simp [hkc]
          rw [this, filter_T, outs_forbid hm f (i + 1) (wth s k) (by omega)]
          have e2 : (fun l => !hits r c (i + 1) l) = fun _ => true := by
            funext x
            unfold hits
            rw [decide_eq_false (by omega)]; rfl
          rw [e2, filter_T]; rfl
      · rw [decide_eq_false hir, Bool.false_and, Bool.not_false, if_pos rfl, outs_forbid hm f (i + 1) (wth s k) (by omega)]
        congr 1
        congr 1
        funext x
        unfold hits
        show (!(decide (i + 1 ≤ r) && decide (x[r - (i + 1)]? = some c))) = !(decide (i ≤ r) && decide ((k :: x)[r - i]? = some c))
        by_cases h2 : i ≤ r
        · rw [decide_eq_true h2, decide_eq_true (show i + 1 ≤ r by omega), show r - i = (r - (i + 1)) + 1 by omega, List.getElem?_cons_succ]
        · rw [decide_eq_false h2, decide_eq_false (show ¬ i + 1 ≤ r by omega)]; rfl
theorem forbid_count (hm : ∀ i k, i < n → k < n → may' i k = (may i k && !(decide (i = r) && decide (k = c)))) : Rn may' n 0 + Tn0 may n r c = Rn may n 0 := by
  have h := outs_forbid hm n 0 0 (by omega)
  have e1 : On may' n 0 = (On may n 0).filter fun l => !hits r c 0 l := by
    unfold On; rw [pcn_zero, Nat.sub_zero]; exact h
  rw [← On_len, ← On_len, e1, ← List.countP_eq_length_filter, Nat.add_comm]
  have := List.length_eq_countP_add_countP (fun l => decide (l[r]? = some c)) (l := On may n 0)
  unfold Tn0
  rw [this]
  congr 1
  refine List.countP_congr fun x _ => ?_
  unfold hits
  simp
end
/-- the draw with a pair more -/
def addF (d : DrawD) (f : Int × Int) : DrawD := ⟨d.first, d.second, f :: d.forb⟩
def addF2 (d : DrawD) (f : Int × Int) : DrawD := ⟨d.first, d.second, (f :: d.forb) ++ [f]⟩
theorem pot_inj {l : List Int} (h : potB l = true) {i j : Nat} (hi : i < l.length) (hj : j < l.length) (e : nthI l i = nthI l j) : i = j := by
  have key : ∀ {a b : Nat}, b < l.length → a < b → nthI l a ≠ nthI l b := fun {a b} hb hab e => by
    unfold potB at h
    simp only [Bool.and_eq_true, List.all_eq_true, List.mem_range] at h
    have := h.1 b hb
    unfold okAt at this
    simp only [Bool.and_eq_true, Bool.not_eq_true'] at this
    have h2 := this.2.2
    have hm : nthI l b ∈ l.take b := by
      rw [← e, nthI_get (by omega), List.mem_iff_getElem]
      exact ⟨a, by rw [List.length_take]; omega, by rw [List.getElem_take]⟩
    rw [← List.contains_iff_mem, h2] at hm
    cases hm
  rcases Nat.lt_trichotomy i j with h1 | h1 | h1
  · exact absurd e (key hj h1)
  · exact h1
  · exact absurd e.symm (key hi h1)
theorem mayD_add {d : DrawD} (h : checkB d = true) {r c i k : Nat} (hr : r < nD d) (hc : c < nD d) (hi : i < nD d) (hk : k < nD d) : mayD (addF d (nthI d.first r, nthI d.second c)) i k = (mayD d i k && !(decide (i = r) && decide (k = c))) := by
  have hl := checkB_len h
  unfold mayD addF
  simp only [List.contains_cons, Bool.not_or]
  rw [Bool.and_comm]
  congr 1
  congr 1
  rw [Bool.eq_iff_iff]
  simp only [beq_iff_eq, Prod.mk.injEq, Bool.and_eq_true, decide_eq_true_eq]
  constructor
  · rintro ⟨e1, e2⟩
    exact ⟨pot_inj hl.2.2.2.1 hi hr e1, pot_inj hl.2.2.2.2 (hl.2.2.1 ▸ hk) (hl.2.2.1 ▸ hc) e2⟩
  · rintro ⟨rfl, rfl⟩
    exact ⟨rfl, rfl⟩
theorem mayD_add2 (d : DrawD) (f : Int × Int) : mayD (addF2 d f) = mayD (addF d f) := by
  funext i k
  unfold mayD addF addF2
  simp only [List.contains_append, List.contains_cons, List.contains_nil, Bool.or_false]
  cases ((nthI d.first i, nthI d.second k) == f) <;> simp
theorem hasF_nth {d : DrawD} {r c : Nat} (hr : r < d.first.length) (hc : c < d.second.length) : hasF d (nthI d.first r, nthI d.second c) = true := by
  unfold hasF
  rw [Bool.and_eq_true, List.contains_iff_mem, List.contains_iff_mem, nthI_get hr, nthI_get hc]
  exact ⟨List.getElem_mem hr, List.getElem_mem hc⟩
theorem check_add {d : DrawD} (h : checkB d = true) (hf : d.forb.length ≤ 80) {r c : Nat} (hr : r < nD d) (hc : c < nD d) : checkB (addF d (nthI d.first r, nthI d.second c)) = true ∧ checkB (addF2 d (nthI d.first r, nthI d.second c)) = true := by
  have hl := checkB_len h
  have hh := hasF_nth (d := d) hr (hl.2.2.1 ▸ hc)
  unfold checkB at h
  simp only [Bool.and_eq_true, decide_eq_true_eq] at h
  have ha := h.2
  constructor
  · unfold checkB addF
    simp only [Bool.and_eq_true, decide_eq_true_eq, List.all_cons, List.length_cons]
    exact ⟨⟨h.1.1, h.1.2.1, h.1.2.2.1, by omega⟩, hh, ha⟩
  · unfold checkB addF2
    simp only [Bool.and_eq_true, decide_eq_true_eq, List.all_cons, List.all_append, List.length_cons, List.length_append, List.all_nil, Bool.and_true, List.length_nil, List.cons_append]
    exact ⟨⟨h.1.1, h.1.2.1, h.1.2.2.1, by omega⟩, hh, ha, hh⟩
/-- what forbidding a pair does to the numbers -/
theorem forbids {d : DrawD} (h : checkB d = true) (hf : d.forb.length ≤ 80) {r c : Nat} (hr : r < nD d) (hc : c < nD d) :
    ∃ m, countD (addF d (nthI d.first r, nthI d.second c)) = (m, 0) ∧ countD (addF2 d (nthI d.first r, nthI d.second c)) = (m, 0) ∧ m + Td d r c = Rn (mayD d) (nD d) 0 := by
  obtain ⟨h1, h2⟩ := check_add h hf hr hc
  refine ⟨Rn (mayD (addF d (nthI d.first r, nthI d.second c))) (nD d) 0, ?_, ?_, ?_⟩
  · unfold countD; rw [h1]; rfl
  · unfold countD; rw [h2, mayD_add2]; rfl
  · exact forbid_count fun i k hi hk => mayD_add h hr hc hi hk
end Go.Proofs.Ytbkgkgigcohbpaa
