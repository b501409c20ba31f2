/- The specification of layer 25 in plain Lean: graphs, their order, which are valid, the edges of a vertex. No program here. -/
import Derived.Test.YtolappaekjdcgaaInts
namespace Go.Proofs.Ytolappaekjdcgaa
structure GrD where
  left : Int
  right : Int
  edges : List (Int × Int)
def ordE (a b : Int × Int) : Int := if a.1 < b.1 then -1 else if b.1 < a.1 then 1 else if a.2 < b.2 then -1 else if b.2 < a.2 then 1 else 0
def ltE (a b : Int × Int) : Prop := a.1 < b.1 ∨ a.1 = b.1 ∧ a.2 < b.2
theorem ordE_lt {a b : Int × Int} : ordE a b < 0 ↔ ltE a b := by
  unfold ordE ltE
  repeat' split
  all_goals omega
theorem ordE_eq {a b : Int × Int} : ordE a b = 0 ↔ a = b := by
  rw [Prod.ext_iff]
  unfold ordE
  repeat' split
  all_goals omega
theorem ordE_range (a b : Int × Int) : -1 ≤ ordE a b ∧ ordE a b ≤ 1 := by
  unfold ordE
  repeat' split
  all_goals omega
theorem ltE_trans {a b c : Int × Int} (h : ltE a b) (k : ltE b c) : ltE a c := by unfold ltE at *; omega
theorem ltE_irrefl {a : Int × Int} (h : ltE a a) : False := by unfold ltE at h; omega
theorem ltE_tri (a b : Int × Int) : ltE a b ∨ a = b ∨ ltE b a := by
  rw [Prod.ext_iff]; unfold ltE; omega
/-- element j of pairs -/
def nthE (l : List (Int × Int)) (j : Nat) : Int × Int := l.getD j (0, 0)
theorem nthE_get {l : List (Int × Int)} {q : Nat} (h : q < l.length) : nthE l q = l[q] := by unfold nthE; rw [List.getD_eq_getElem?_getD, List.getElem?_eq_getElem h]; rfl
/-- strictly ascending -/
def SrtE (l : List (Int × Int)) : Prop := ∀ i j, i < j → j < l.length → ltE (nthE l i) (nthE l j)
/-- the place of t: what is before is less, what is behind is not -/
structure IsLow (l : List (Int × Int)) (t : Int × Int) (i : Nat) : Prop where
  le : i ≤ l.length
  lo : ∀ q, q < i → ltE (nthE l q) t
  hi : ∀ q, i ≤ q → q < l.length → ¬ ltE (nthE l q) t
/-- a step of the search -/
structure Srch (l : List (Int × Int)) (t : Int × Int) (i j : Nat) : Prop where
  le : i ≤ j
  len : j ≤ l.length
  lo : ∀ q, q < i → ltE (nthE l q) t
  hi : ∀ q, j ≤ q → q < l.length → ¬ ltE (nthE l q) t
theorem Srch.start (l : List (Int × Int)) (t : Int × Int) : Srch l t 0 l.length := ⟨by omega, by omega, fun _ h => by omega, fun _ h h' => by omega⟩
theorem Srch.up {l : List (Int × Int)} {t : Int × Int} {i j h : Nat} (s : Srch l t i j) (hs : SrtE l) (hj : h < j) (hh : ordE (nthE l h) t < 0) : Srch l t (h + 1) j :=
  ⟨hj, s.len, fun q hq => by
    rcases Nat.lt_or_ge q h with k | k
    · exact ltE_trans (hs q h k (by have := s.len; omega)) (ordE_lt.1 hh)
    · rw [show q = h by omega]; exact ordE_lt.1 hh, s.hi⟩
theorem Srch.down {l : List (Int × Int)} {t : Int × Int} {i j h : Nat} (s : Srch l t i j) (hs : SrtE l) (hi : i ≤ h) (hj : h < j) (hh : ¬ ordE (nthE l h) t < 0) : Srch l t i h :=
  ⟨hi, by have := s.len; omega, s.lo, fun q hq hl hlt => by
    rcases Nat.lt_or_ge h q with k | k
    · exact hh (ordE_lt.2 (ltE_trans (hs h q k hl) hlt))
    · rw [show q = h by omega] at hlt; exact hh (ordE_lt.2 hlt)⟩
theorem Srch.low {l : List (Int × Int)} {t : Int × Int} {i : Nat} (s : Srch l t i i) : IsLow l t i := ⟨s.len, s.lo, s.hi⟩
theorem IsLow.yes {l : List (Int × Int)} {t : Int × Int} {i : Nat} (hi : i < l.length) (e : ordE (nthE l i) t = 0) : l.contains t = true := by
  rw [List.contains_iff_mem, ← ordE_eq.1 e, nthE_get hi]
  exact List.getElem_mem hi
theorem IsLow.no {l : List (Int × Int)} {t : Int × Int} {i : Nat} (s : IsLow l t i) (hs : SrtE l) (e : i < l.length → ordE (nthE l i) t ≠ 0) : l.contains t = false := by
  rw [Bool.eq_false_iff]
  intro h
  rw [List.contains_iff_mem, List.mem_iff_getElem] at h
  obtain ⟨q, hq, rfl⟩ := h
  rw [← nthE_get hq] at s e
  rcases Nat.lt_or_ge q i with k | k
  · exact ltE_irrefl (s.lo q k)
  · rcases Nat.lt_or_ge i q with k2 | k2
    · exact s.hi i (Nat.le_refl _) (by omega) (hs i q k2 hq)
    · obtain rfl : q = i := by omega
      exact e hq (ordE_eq.2 rfl)
/-- an edge that is right at place i -/
def okE (g : GrD) (i : Nat) : Bool := decide (0 ≤ (nthE g.edges i).1) && (decide ((nthE g.edges i).1 < g.left) && (decide (0 ≤ (nthE g.edges i).2) && (decide ((nthE g.edges i).2 < g.right) && (decide (i = 0) || decide (ordE (nthE g.edges (i - 1)) (nthE g.edges i) < 0)))))
def sizeOk (g : GrD) : Bool := decide (0 ≤ g.left) && (decide (g.left ≤ 512) && (decide (0 ≤ g.right) && (decide (g.right ≤ 512) && decide (g.edges.length ≤ 4096))))
def chkB (g : GrD) : Bool := sizeOk g && (List.range g.edges.length).all (okE g)
def chkG (g : GrD) : Int := if chkB g then 0 else 250
theorem chkG_yes {g : GrD} (h : chkB g = true) : chkG g = 0 := by unfold chkG; rw [h]; rfl
theorem chkG_no {g : GrD} (h : chkB g = false) : chkG g = 250 := by unfold chkG; rw [h]; rfl
/-- the first k edges are right -/
def okTo (g : GrD) (k : Nat) : Prop := ∀ j, j < k → okE g j = true
theorem okTo_zero {g : GrD} : okTo g 0 := fun _ h => absurd h (by omega)
theorem okTo_succ {g : GrD} {k : Nat} (h : okTo g k) (hk : okE g k = true) : okTo g (k + 1) := fun j hj => by
  rcases Nat.lt_or_ge j k with h1 | h1
  · exact h j h1
  · rw [show j = k by omega]; exact hk
theorem chk_all {g : GrD} (hs : sizeOk g = true) (h : okTo g g.edges.length) : chkB g = true := by
  unfold chkB
  rw [hs, List.all_eq_true.2 (fun j hj => h j (List.mem_range.1 hj))]; rfl
theorem chk_no {g : GrD} {k : Nat} (hk : k < g.edges.length) (h : okE g k = false) : chkB g = false := by
  unfold chkB
  rw [List.all_eq_false.2 ⟨k, List.mem_range.2 hk, by rw [h]; decide⟩, Bool.and_false]
theorem chk_size {g : GrD} (h : sizeOk g = false) : chkB g = false := by unfold chkB; rw [h]; rfl
/-- what a valid graph is -/
structure GOk (g : GrD) (L R : Nat) : Prop where
  left : g.left = L
  right : g.right = R
  l512 : L ≤ 512
  r512 : R ≤ 512
  len : g.edges.length ≤ 4096
  rng : ∀ i, i < g.edges.length → 0 ≤ (nthE g.edges i).1 ∧ (nthE g.edges i).1 < L ∧ 0 ≤ (nthE g.edges i).2 ∧ (nthE g.edges i).2 < R
  srt : SrtE g.edges
theorem gok_of {g : GrD} (h : chkB g = true) : ∃ L R, GOk g L R := by
  unfold chkB sizeOk at h
  simp only [Bool.and_eq_true, decide_eq_true_eq, List.all_eq_true, List.mem_range] at h
  obtain ⟨⟨a, b, c, d, e⟩, h2⟩ := h
  have h3 : ∀ i, i < g.edges.length → (0 ≤ (nthE g.edges i).1 ∧ (nthE g.edges i).1 < g.left ∧ 0 ≤ (nthE g.edges i).2 ∧ (nthE g.edges i).2 < g.right) ∧ (i = 0 ∨ ltE (nthE g.edges (i - 1)) (nthE g.edges i)) := fun i hi => by
    have := h2 i hi
    unfold okE at this
    simp only [Bool.and_eq_true, Bool.or_eq_true, decide_eq_true_eq] at this
    exact ⟨⟨this.1, this.2.1, this.2.2.1, this.2.2.2.1⟩, this.2.2.2.2.imp id ordE_lt.1⟩
  refine ⟨g.left.toNat, g.right.toNat, by omega, by omega, by omega, by omega, e, fun i hi => ?_, fun i j hij hj => ?_⟩
  · have := (h3 i hi).1; omega
  · induction j with
    | zero => omega
    | succ j ih =>
      have h4 := (h3 (j + 1) hj).2.resolve_left (by omega)
      rw [Nat.add_sub_cancel] at h4
      rcases Nat.lt_or_ge i j with k | k
      · exact ltE_trans (ih k (by omega)) h4
      · rw [show i = j by omega]; exact h4
/-- the edges of a left vertex -/
def ofV (l : List (Int × Int)) (v : Nat) : List (Int × Int) := l.filter fun e => e.1 == (v : Int)
theorem split3 {α : Type} (l : List α) {lo hi : Nat} (h : lo ≤ hi) : l = l.take lo ++ (((l.drop lo).take (hi - lo)) ++ l.drop hi) := by
  conv => lhs; rw [← List.take_append_drop lo l, ← List.take_append_drop (hi - lo) (l.drop lo)]
  rw [List.drop_drop, show lo + (hi - lo) = hi by omega]
theorem low_le {l : List (Int × Int)} {s t : Int × Int} {i j : Nat} (hi : IsLow l s i) (hj : IsLow l t j) (h : ltE s t) : i ≤ j := by
  rcases Nat.lt_or_ge j i with k | k
  · exact absurd (ltE_trans (hi.lo j k) h) (hj.hi j (Nat.le_refl _) (by have := hi.le; omega))
  · exact k
theorem ofV_part {l : List (Int × Int)} {v lo hi : Nat} (hr : ∀ i, i < l.length → 0 ≤ (nthE l i).2) (h1 : IsLow l ((v : Int), 0) lo) (h2 : IsLow l ((v : Int) + 1, 0) hi) : ofV l v = (l.drop lo).take (hi - lo) := by
  have hle : lo ≤ hi := low_le h1 h2 (.inl (by show (v : Int) < v + 1; omega))
  unfold ofV
  conv => lhs; rw [split3 l hle, List.filter_append, List.filter_append]
  have a : (l.take lo).filter (fun e => e.1 == (v : Int)) = [] := by
    rw [List.filter_eq_nil_iff]
    intro e he
    obtain ⟨q, hq, rfl⟩ := List.mem_iff_getElem.1 he
    rw [List.length_take] at hq
    have hlt := h1.lo q (by omega)
    rw [nthE_get (by omega)] at hlt
    rw [List.getElem_take, beq_iff_eq]
    intro e
    have := hr q (by omega)
    rw [nthE_get (by omega)] at this
    rcases hlt with k | ⟨_, k⟩
    · rw [e] at k; exact absurd k (by show ¬ (v : Int) < v; omega)
    · have k : (l[q]'(by omega)).2 < 0 := k
      omega
  have b : (l.drop hi).filter (fun e => e.1 == (v : Int)) = [] := by
    rw [List.filter_eq_nil_iff]
    intro e he
    obtain ⟨q, hq, rfl⟩ := List.mem_iff_getElem.1 he
    rw [List.length_drop] at hq
    have hlt := h2.hi (hi + q) (by omega) (by omega)
    rw [nthE_get (by omega)] at hlt
    rw [List.getElem_drop, beq_iff_eq]
    intro e
    refine hlt (.inl ?_)
    rw [e]
    show (v : Int) < v + 1
    omega
  have c : ((l.drop lo).take (hi - lo)).filter (fun e => e.1 == (v : Int)) = (l.drop lo).take (hi - lo) := by
    rw [List.filter_eq_self]
    intro e he
    obtain ⟨q, hq, rfl⟩ := List.mem_iff_getElem.1 he
    have hq2 : q < hi - lo ∧ lo + q < l.length := by rw [List.length_take, List.length_drop] at hq; omega
    rw [List.getElem_take, List.getElem_drop, beq_iff_eq]
    have k1 := h1.hi (lo + q) (by omega) hq2.2
    have k2 := h2.lo (lo + q) (by omega)
    have k3 := hr (lo + q) hq2.2
    rw [nthE_get hq2.2] at k1 k2 k3
    unfold ltE at k1 k2
    dsimp only at k1 k2
    omega
  rw [a, b, c, List.nil_append, List.append_nil]
theorem mem_ofV {l : List (Int × Int)} {v : Nat} {e : Int × Int} : e ∈ ofV l v ↔ e ∈ l ∧ e.1 = (v : Int) := by unfold ofV; rw [List.mem_filter, beq_iff_eq]
/-- the edge relation in natural numbers -/
def edB (g : GrD) (v r : Nat) : Bool := g.edges.contains ((v : Int), (r : Int))
end Go.Proofs.Ytolappaekjdcgaa
