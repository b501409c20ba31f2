/- Cuts in plain Lean: when a cut fits a race. No program here. -/
import Derived.Test.YthlnfjbedehjdaaA10
namespace Go.Proofs.Ythlnfjbedehjdaa
structure CutD where
  free : List Int
  clubs : List Int
  games : List Int
/-- an open game that counts for a cut -/
def hitB (q : RaceD) (certain : Bool) (cl : List Int) (i : Nat) : Bool :=
  (cl.contains (nthE q.opn i).1 && cl.contains (nthE q.opn i).2) || (certain && (cl.contains (nthE q.opn i).1 || cl.contains (nthE q.opn i).2))
/-- the games that count among the first k -/
def gamesTo (q : RaceD) (certain : Bool) (cl : List Int) (k : Nat) : List Int := ((List.range k).filter (hitB q certain cl)).map fun (i : Nat) => (i : Int)
theorem gamesTo_zero (q : RaceD) (certain : Bool) (cl : List Int) : gamesTo q certain cl 0 = [] := rfl
theorem gamesTo_yes {q : RaceD} {certain : Bool} {cl : List Int} {k : Nat} (h : hitB q certain cl k = true) : gamesTo q certain cl (k + 1) = gamesTo q certain cl k ++ [(k : Int)] := by
  unfold gamesTo
  rw [List.range_succ, List.filter_append, List.map_append]
  simp [h]
theorem gamesTo_no {q : RaceD} {certain : Bool} {cl : List Int} {k : Nat} (h : hitB q certain cl k = false) : gamesTo q certain cl (k + 1) = gamesTo q certain cl k := by
  unfold gamesTo
  rw [List.range_succ, List.filter_append, List.map_append]
  simp [h]
theorem gamesTo_le (q : RaceD) (certain : Bool) (cl : List Int) (k : Nat) : (gamesTo q certain cl k).length ≤ k := by
  unfold gamesTo
  rw [List.length_map]
  exact Nat.le_trans (List.length_filter_le _ _) (Nat.le_of_eq List.length_range)
/-- the club takes part in an open game -/
def ownB (q : RaceD) (i : Nat) : Bool := decide ((nthE q.opn i).1 = q.club) || decide ((nthE q.opn i).2 = q.club)
/-- the club's points if it wins its games among the first k -/
def highTo (q : RaceD) : Nat → Int
  | 0 => nthI q.points q.club.toNat
  | k + 1 => if ownB q k then highTo q k + q.win else highTo q k
def lowR (q : RaceD) : Int := nthI q.points q.club.toNat
def highR (q : RaceD) : Int := highTo q q.opn.length
/-- what a club of a cut counts for -/
def needR (q : RaceD) (i : Int) : Int := max 0 (-((nthI q.points i.toNat - lowR q) / q.draw))
def roomR (q : RaceD) (i : Int) : Int := (highR q - nthI q.points i.toNat) / q.draw
def countR (q : RaceD) (certain : Bool) (i : Int) : Int := if certain then needR q i else -roomR q i
def sumTo (q : RaceD) (certain : Bool) (cl : List Int) : Nat → Int
  | 0 => 0
  | k + 1 => sumTo q certain cl k + countR q certain (nthI cl k)
/-- the clubs lie on the right side of Free -/
def sideTo (free : List Int) (certain : Bool) (cl : List Int) (k : Nat) : Prop := ∀ j, j < k → free.contains (nthI cl j) = certain
instance (free : List Int) (certain : Bool) (cl : List Int) (k : Nat) : Decidable (sideTo free certain cl k) := by unfold sideTo; infer_instance
theorem sideTo_zero {free : List Int} {certain : Bool} {cl : List Int} : sideTo free certain cl 0 := fun j hj => absurd hj (by omega)
theorem sideTo_succ {free : List Int} {certain : Bool} {cl : List Int} {k : Nat} (h : sideTo free certain cl k) (hk : free.contains (nthI cl k) = certain) : sideTo free certain cl (k + 1) := fun j hj => by
  rcases Nat.lt_or_ge j k with h1 | h1
  · exact h j h1
  · rw [show j = k by omega]; exact hk
/-- what the sum must exceed -/
def overB (q : RaceD) (certain : Bool) (cl : List Int) : Bool :=
  decide ((if certain then 2 * ((gamesTo q certain cl q.opn.length).length : Int) else 0) < sumTo q certain cl cl.length + (if certain then 0 else 2 * ((gamesTo q certain cl q.opn.length).length : Int)))
/-- a cut fits -/
structure FitR (q : RaceD) (certain : Bool) (c : CutD) : Prop where
  halves : halvesB q = true
  free : setB q c.free = true
  clubs : setB q c.clubs = true
  some : c.clubs ≠ []
  size : (c.free.length : Int) = sizeK q certain
  side : sideTo c.free certain c.clubs c.clubs.length
  games : gamesTo q certain c.clubs q.opn.length = c.games
  over : overB q certain c.clubs = true
instance (q : RaceD) (certain : Bool) (c : CutD) : Decidable (FitR q certain c) :=
  decidable_of_iff (halvesB q = true ∧ setB q c.free = true ∧ setB q c.clubs = true ∧ c.clubs ≠ [] ∧ (c.free.length : Int) = sizeK q certain ∧ sideTo c.free certain c.clubs c.clubs.length ∧ gamesTo q certain c.clubs q.opn.length = c.games ∧ overB q certain c.clubs = true)
    ⟨fun ⟨a, b, c, d, e, f, g, h⟩ => ⟨a, b, c, d, e, f, g, h⟩, fun ⟨a, b, c, d, e, f, g, h⟩ => ⟨a, b, c, d, e, f, g, h⟩⟩
def fitsB (q : RaceD) (certain : Bool) (c : CutD) : Bool := decide (FitR q certain c)
theorem fits_no {q : RaceD} {certain : Bool} {c : CutD} (h : ¬ FitR q certain c) : fitsB q certain c = false := decide_eq_false h
theorem fits_yes {q : RaceD} {certain : Bool} {c : CutD} (h : FitR q certain c) : fitsB q certain c = true := decide_eq_true h
/-- what Cut answers -/
def cutR (q : RaceD) (certain : Bool) (c : CutD) : Int := if validB q then (if fitsB q certain c then 0 else 290) else 280
/-- a set has at most as many elements as there are clubs -/
theorem set_inc {q : RaceD} {l : List Int} (h : setB q l = true) : ∀ k, k < l.length → (k : Int) ≤ nthI l k := by
  unfold setB at h
  rw [List.all_eq_true] at h
  intro k
  induction k with
  | zero => intro hk; have := h 0 (List.mem_range.2 hk); simp only [decide_eq_true_eq] at this; exact this.1
  | succ k ih =>
    intro hk
    have h1 := ih (by omega)
    have := h (k + 1) (List.mem_range.2 hk)
    simp only [decide_eq_true_eq] at this
    have h2 := this.2.2.2 (by omega)
    rw [Nat.add_sub_cancel] at h2
    omega
theorem set_ok {q : RaceD} {l : List Int} (h : setB q l = true) {k : Nat} (hk : k < l.length) : SetOk q l k := by
  unfold setB at h
  rw [List.all_eq_true] at h
  have := h k (List.mem_range.2 hk)
  simpa only [decide_eq_true_eq] using this
theorem set_len {q : RaceD} {l : List Int} (h : setB q l = true) : l.length ≤ q.clubs.length := by
  rcases Nat.eq_zero_or_pos l.length with h0 | h0
  · omega
  · have h1 := set_inc h (l.length - 1) (by omega)
    have h2 := (set_ok h (k := l.length - 1) (by omega)).2.1
    omega
/-- bounds -/
theorem low_in {q : RaceD} (h : ValidR q) (i : Nat) : -99999 ≤ nthI q.points i ∧ nthI q.points i ≤ 99999 := by
  by_cases hi : i < q.clubs.length
  · exact ⟨(h.club i hi).lo, (h.club i hi).hi⟩
  · have h0 : nthI q.points i = 0 := by
      unfold nthI
      rw [List.getD_eq_getElem?_getD, List.getElem?_eq_none (by have := h.size.pts; omega)]; rfl
    omega
theorem highTo_in {q : RaceD} (h : ValidR q) (k : Nat) : -99999 ≤ highTo q k ∧ highTo q k ≤ 99999 + 999 * k := by
  have h1 := h.size.d0
  have h2 := h.size.dw
  have h3 := h.size.w9
  induction k with
  | zero => have := low_in h q.club.toNat; unfold highTo; omega
  | succ k ih => unfold highTo; split <;> omega
theorem div_in {a b m : Int} (hb : 0 < b) (hm : 0 ≤ m) (h : -m ≤ a ∧ a ≤ m) : -m - 1 ≤ a / b ∧ a / b ≤ m := by
  constructor
  · refine Int.le_ediv_of_mul_le hb ?_
    have : (-m - 1) * b ≤ (-m - 1) * 1 := Int.mul_le_mul_of_nonpos_left (by omega) (by omega)
    omega
  · rcases Int.lt_or_le a 0 with h1 | h1
    · have := Int.ediv_neg_of_neg_of_pos h1 hb; omega
    · have := Int.ediv_le_self b h1; omega
theorem countR_in {q : RaceD} (h : ValidR q) (hd : 0 < q.draw) (certain : Bool) (i : Int) : -1000000 ≤ countR q certain i ∧ countR q certain i ≤ 1000000 := by
  have h1 := low_in h i.toNat
  have h2 := low_in h q.club.toNat
  have h3 := highTo_in h q.opn.length
  have h4 := h.size.opn
  cases certain
  · show -1000000 ≤ -roomR q i ∧ -roomR q i ≤ 1000000
    have := div_in (a := highR q - nthI q.points i.toNat) hd (m := 900000) (by omega) (by unfold highR; omega)
    unfold roomR
    omega
  · show -1000000 ≤ needR q i ∧ needR q i ≤ 1000000
    have := div_in (a := nthI q.points i.toNat - lowR q) hd (m := 200000) (by omega) (by unfold lowR; omega)
    unfold needR
    omega
theorem sumTo_in {q : RaceD} (h : ValidR q) (hd : 0 < q.draw) (certain : Bool) (cl : List Int) (k : Nat) : -(1000000 * k : Int) ≤ sumTo q certain cl k ∧ sumTo q certain cl k ≤ 1000000 * k := by
  induction k with
  | zero => unfold sumTo; omega
  | succ k ih => have := countR_in h hd certain (nthI cl k); unfold sumTo; omega
end Go.Proofs.Ythlnfjbedehjdaa
