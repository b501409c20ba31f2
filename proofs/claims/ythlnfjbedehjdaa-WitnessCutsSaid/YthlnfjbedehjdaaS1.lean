/- Races, completions and final points in plain Lean. No program here. -/
import Derived.Test.YthlnfjbedehjdaaIdx
namespace Go.Proofs.Ythlnfjbedehjdaa
structure RaceD where
  win : Int
  draw : Int
  clubs : List Int
  points : List Int
  opn : List (Int × Int)
  club : Int
  place : Int
def nthE (xs : List (Int × Int)) (j : Nat) : Int × Int := xs.getD j (0, 0)
/-- the numbers of a valid race -/
structure SizeR (q : RaceD) : Prop where
  d0 : 0 ≤ q.draw
  dw : q.draw ≤ q.win
  w9 : q.win ≤ 999
  n2 : 2 ≤ q.clubs.length
  n24 : q.clubs.length ≤ 24
  pts : q.points.length = q.clubs.length
  opn : q.opn.length ≤ 552
  c0 : 0 ≤ q.club
  cn : q.club < q.clubs.length
  p1 : 1 ≤ q.place
  pn : q.place ≤ q.clubs.length
instance (q : RaceD) : Decidable (SizeR q) :=
  decidable_of_iff (0 ≤ q.draw ∧ q.draw ≤ q.win ∧ q.win ≤ 999 ∧ 2 ≤ q.clubs.length ∧ q.clubs.length ≤ 24 ∧ q.points.length = q.clubs.length ∧ q.opn.length ≤ 552 ∧ 0 ≤ q.club ∧ q.club < q.clubs.length ∧ 1 ≤ q.place ∧ q.place ≤ q.clubs.length)
    ⟨fun ⟨a, b, c, d, e, f, g, h, i, j, k⟩ => ⟨a, b, c, d, e, f, g, h, i, j, k⟩, fun ⟨a, b, c, d, e, f, g, h, i, j, k⟩ => ⟨a, b, c, d, e, f, g, h, i, j, k⟩⟩
/-- club number i of a race -/
structure ClubR (q : RaceD) (i : Nat) : Prop where
  c0 : 0 ≤ nthI q.clubs i
  c192 : nthI q.clubs i < 192
  inc : 0 < i → nthI q.clubs (i - 1) < nthI q.clubs i
  lo : -99999 ≤ nthI q.points i
  hi : nthI q.points i ≤ 99999
instance (q : RaceD) (i : Nat) : Decidable (ClubR q i) :=
  decidable_of_iff (0 ≤ nthI q.clubs i ∧ nthI q.clubs i < 192 ∧ (0 < i → nthI q.clubs (i - 1) < nthI q.clubs i) ∧ -99999 ≤ nthI q.points i ∧ nthI q.points i ≤ 99999)
    ⟨fun ⟨a, b, c, d, e⟩ => ⟨a, b, c, d, e⟩, fun ⟨a, b, c, d, e⟩ => ⟨a, b, c, d, e⟩⟩
/-- an open game among n clubs -/
def EdgeR (n : Nat) (e : Int × Int) : Prop := (0 ≤ e.1 ∧ e.1 < n) ∧ (0 ≤ e.2 ∧ e.2 < n) ∧ e.1 ≠ e.2
instance (n : Nat) (e : Int × Int) : Decidable (EdgeR n e) := by unfold EdgeR; infer_instance
def edgeB (n : Nat) (e : Int × Int) : Bool := decide (EdgeR n e)
def validB (q : RaceD) : Bool := decide (SizeR q) && (List.range q.clubs.length).all (fun i => decide (ClubR q i)) && q.opn.all (edgeB q.clubs.length)
structure ValidR (q : RaceD) : Prop where
  size : SizeR q
  club : ∀ i, i < q.clubs.length → ClubR q i
  edge : ∀ e ∈ q.opn, EdgeR q.clubs.length e
theorem validB_iff {q : RaceD} : validB q = true ↔ ValidR q := by
  unfold validB edgeB
  simp only [Bool.and_eq_true, decide_eq_true_eq, List.all_eq_true, List.mem_range]
  exact ⟨fun ⟨⟨a, b⟩, c⟩ => ⟨a, b, c⟩, fun h => ⟨⟨h.size, h.club⟩, h.edge⟩⟩
theorem valid_size {q : RaceD} (h : ¬ SizeR q) : validB q = false := by
  rw [Bool.eq_false_iff]; intro e; exact h (validB_iff.1 e).size
theorem valid_club {q : RaceD} {i : Nat} (hi : i < q.clubs.length) (h : ¬ ClubR q i) : validB q = false := by
  rw [Bool.eq_false_iff]; intro e; exact h ((validB_iff.1 e).club i hi)
/-- the first k clubs are right -/
def clubsTo (q : RaceD) (k : Nat) : Prop := ∀ i, i < k → ClubR q i
theorem clubsTo_zero {q : RaceD} : clubsTo q 0 := fun _ h => absurd h (by omega)
theorem clubsTo_succ {q : RaceD} {k : Nat} (h : clubsTo q k) (hk : ClubR q k) : clubsTo q (k + 1) := fun i hi => by
  rcases Nat.lt_or_ge i k with h1 | h1
  · exact h i h1
  · rw [show i = k by omega]; exact hk
theorem valid_of {q : RaceD} (hs : SizeR q) (hc : clubsTo q q.clubs.length) : validB q = q.opn.all (edgeB q.clubs.length) := by
  unfold validB
  rw [decide_eq_true hs, List.all_eq_true.2 (fun i hi => decide_eq_true (hc i (List.mem_range.1 hi))), Bool.true_and, Bool.true_and]
/-- a game's outcome is one of three -/
def outB (o : Int) : Bool := decide (1 ≤ o) && decide (o ≤ 3)
def complB (q : RaceD) (outs : List Int) : Bool := decide (outs.length = q.opn.length) && outs.all outB
/-- points are added to a club -/
def addP (p : List Int) (i x : Int) : List Int := p.set i.toNat (nthI p i.toNat + x)
theorem addP_length (p : List Int) (i x : Int) : (addP p i x).length = p.length := by simp [addP]
/-- a game is played -/
def playR (q : RaceD) (p : List Int) (e : Int × Int) (o : Int) : List Int :=
  if o = 1 then addP p e.1 q.win else if o = 3 then addP p e.2 q.win else addP (addP p e.1 q.draw) e.2 q.draw
theorem playR_length (q : RaceD) (p : List Int) (e : Int × Int) (o : Int) : (playR q p e o).length = p.length := by
  unfold playR; split <;> (try split) <;> simp [addP_length]
/-- the points after k games -/
def finTo (q : RaceD) (outs : Nat → Int) : Nat → List Int
  | 0 => q.points
  | k + 1 => playR q (finTo q outs k) (nthE q.opn k) (outs k)
theorem finTo_length (q : RaceD) (outs : Nat → Int) (k : Nat) : (finTo q outs k).length = q.points.length := by
  induction k with
  | zero => rfl
  | succ k ih => unfold finTo; rw [playR_length, ih]
def finR (q : RaceD) (outs : List Int) : List Int := finTo q (nthI outs) q.opn.length
/-- how many rivals have more points, and how many have as many -/
def moreTo (c : Int) (p : List Int) (k : Nat) : Nat := (List.range k).countP fun (i : Nat) => decide ((i : Int) ≠ c) && decide (nthI p c.toNat < nthI p i)
def manyTo (c : Int) (p : List Int) (k : Nat) : Nat := (List.range k).countP fun (i : Nat) => decide ((i : Int) ≠ c) && decide (nthI p c.toNat ≤ nthI p i)
theorem moreTo_le (c : Int) (p : List Int) (k : Nat) : moreTo c p k ≤ k := by
  unfold moreTo; exact Nat.le_trans List.countP_le_length (Nat.le_of_eq List.length_range)
theorem manyTo_le (c : Int) (p : List Int) (k : Nat) : manyTo c p k ≤ k := by
  unfold manyTo; exact Nat.le_trans List.countP_le_length (Nat.le_of_eq List.length_range)
theorem moreTo_succ (c : Int) (p : List Int) (k : Nat) : moreTo c p (k + 1) = moreTo c p k + if (k : Int) ≠ c ∧ nthI p c.toNat < nthI p k then 1 else 0 := by
  unfold moreTo
  rw [List.range_succ, List.countP_append, List.countP_singleton]
  simp only [Bool.and_eq_true, decide_eq_true_eq]
theorem manyTo_succ (c : Int) (p : List Int) (k : Nat) : manyTo c p (k + 1) = manyTo c p k + if (k : Int) ≠ c ∧ nthI p c.toNat ≤ nthI p k then 1 else 0 := by
  unfold manyTo
  rw [List.range_succ, List.countP_append, List.countP_singleton]
  simp only [Bool.and_eq_true, decide_eq_true_eq]
def moreR (q : RaceD) (p : List Int) : Nat := moreTo q.club p p.length
def manyR (q : RaceD) (p : List Int) : Nat := manyTo q.club p p.length
/-- what Reached and Missed answer -/
def reachedR (q : RaceD) (outs : List Int) : Int := if validB q then (if complB q outs then (if q.place ≤ moreR q (finR q outs) then 290 else 0) else 1) else 280
def missedR (q : RaceD) (outs : List Int) : Int := if validB q then (if complB q outs then (if manyR q (finR q outs) < q.place then 290 else 0) else 1) else 280
/-- points stay small -/
def PtsIn (p : List Int) (b : Int) : Prop := ∀ i, -b ≤ nthI p i ∧ nthI p i ≤ b
theorem nthI_set {p : List Int} {i j : Nat} {x : Int} : nthI (p.set i x) j = if i = j ∧ i < p.length then x else nthI p j := by
  unfold nthI
  rw [List.getD_eq_getElem?_getD, List.getElem?_set, List.getD_eq_getElem?_getD]
  by_cases h : i = j
  · subst h
    by_cases hl : i < p.length
    · simp [hl]
    · simp [hl]
  · simp [h]
theorem addP_in {p : List Int} {b i x : Int} (h : PtsIn p b) (hx : 0 ≤ x ∧ x ≤ 999) : PtsIn (addP p i x) (b + 999) := fun j => by
  unfold addP
  rw [nthI_set]
  have h1 := h j
  have h2 := h i.toNat
  split <;> omega
theorem playR_in {q : RaceD} {p : List Int} {b : Int} {e : Int × Int} {o : Int} (hs : SizeR q) (h : PtsIn p b) : PtsIn (playR q p e o) (b + 1998) := by
  have := hs.d0
  have := hs.dw
  have := hs.w9
  unfold playR
  split
  · exact fun j => by have := addP_in (i := e.1) (x := q.win) h ⟨by omega, by omega⟩ j; omega
  · split
    · exact fun j => by have := addP_in (i := e.2) (x := q.win) h ⟨by omega, by omega⟩ j; omega
    · exact fun j => by
        have := addP_in (i := e.2) (x := q.draw) (addP_in (i := e.1) (x := q.draw) h ⟨by omega, by omega⟩) ⟨by omega, by omega⟩ j
        omega
theorem finTo_in {q : RaceD} (h : ValidR q) (outs : Nat → Int) (k : Nat) : PtsIn (finTo q outs k) (99999 + 1998 * k) := by
  induction k with
  | zero =>
    intro i
    show -(99999 + 1998 * ((0 : Nat) : Int)) ≤ nthI q.points i ∧ _
    by_cases hi : i < q.clubs.length
    · have := (h.club i hi).lo
      have := (h.club i hi).hi
      constructor
      · omega
      · show nthI q.points i ≤ _; omega
    · have h0 : nthI q.points i = 0 := by
        unfold nthI
        rw [List.getD_eq_getElem?_getD, List.getElem?_eq_none (by have := h.size.pts; omega)]; rfl
      constructor
      · omega
      · show nthI q.points i ≤ _; omega
  | succ k ih =>
    intro j
    have := playR_in (e := nthE q.opn k) (o := outs k) h.size ih j
    unfold finTo
    omega
end Go.Proofs.Ythlnfjbedehjdaa
