/- The specification of layer 26 in plain Lean: which draws are valid. No program here. -/
import Derived.Test.YtbkgkgigcohbpaaIdx
namespace Go.Proofs.Ytbkgkgigcohbpaa
structure DrawD where
  first : List Int
  second : List Int
  forb : List (Int × Int)
def okAt (l : List Int) (i : Nat) : Bool := decide (0 ≤ nthI l i) && (decide (nthI l i < 192) && !(l.take i).contains (nthI l i))
def potB (l : List Int) : Bool := (List.range l.length).all (okAt l) && (decide (0 < l.length) && decide (l.length ≤ 16))
def hasF (d : DrawD) (f : Int × Int) : Bool := d.first.contains f.1 && d.second.contains f.2
def checkB (d : DrawD) : Bool := (potB d.first && (potB d.second && (decide (d.first.length = d.second.length) && decide (d.forb.length ≤ 256)))) && d.forb.all (hasF d)
def checkD (d : DrawD) : Int := if checkB d then 0 else 260
def mayD (d : DrawD) (i k : Nat) : Bool := !d.forb.contains (nthI d.first i, nthI d.second k)
/-- the first k are all right -/
def potTo (l : List Int) (k : Nat) : Prop := ∀ j, j < k → okAt l j = true
theorem potTo_zero {l : List Int} : potTo l 0 := fun _ h => absurd h (by omega)
theorem potTo_succ {l : List Int} {k : Nat} (h : potTo l k) (hk : okAt l k = true) : potTo l (k + 1) := fun j hj => by
  rcases Nat.lt_or_ge j k with h1 | h1
  · exact h j h1
  · rw [show j = k by omega]; exact hk
theorem potB_all {l : List Int} (h : potTo l l.length) : potB l = (decide (0 < l.length) && decide (l.length ≤ 16)) := by
  unfold potB
  rw [List.all_eq_true.2 (fun j hj => h j (List.mem_range.1 hj)), Bool.true_and]
theorem potB_no {l : List Int} {k : Nat} (hk : k < l.length) (h : okAt l k = false) : potB l = false := by
  unfold potB
  rw [List.all_eq_false.2 ⟨k, List.mem_range.2 hk, by rw [h]; decide⟩, Bool.false_and]
theorem potB_len {l : List Int} (h : potB l = true) : 1 ≤ l.length ∧ l.length ≤ 16 := by
  unfold potB at h
  simp only [Bool.and_eq_true, decide_eq_true_eq] at h
  omega
end Go.Proofs.Ytbkgkgigcohbpaa
