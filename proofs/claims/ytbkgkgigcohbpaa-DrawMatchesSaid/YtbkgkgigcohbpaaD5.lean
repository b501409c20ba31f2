import Derived.Test.YtbkgkgigcohbpaaD4
import Derived.Test.YtbkgkgigcohbpaaM4
import Derived.Test.YtbkgkgigcohbpaaAp
namespace Go.Proofs.Ytbkgkgigcohbpaa
open Go.RowKit
/-- ints and a code -/
def IntsE (w : World) (r : List Int × Int) (e : Ending) (w' : World) : Prop := ∃ v, e = .returned (.tuple #[v, .int .i64 r.2]) ∧ IsInts w' (fun b => w.heap.size ≤ b) v r.1 ∧ Below w.heap.size w w'
def ofN (l : List Nat) : List Int := l.map fun (x : Nat) => (x : Int)
/-- the outcomes of a draw -/
def outsD (d : DrawD) : List (List Nat) := On (mayD d) (nD d) 0
def outcomeD (d : DrawD) (k : Nat) : List Int × Int := if checkB d then (if (outsD d).length = 0 then ([], 261) else if (outsD d).length ≤ k then ([], 1) else (ofN ((outsD d).getD k []), 0)) else ([], 260)
theorem Try.info_int : (Try.prog.info? 3).map (fun i => (i.zero, i.size, i.bytes)) = some (some (.int .i64 0), 1, 8) := by kernel_rfl
theorem outsD_len (d : DrawD) : (outsD d).length = Rn (mayD d) (nD d) 0 := On_len 0
theorem ofN_snoc (l : List Nat) (j : Nat) : (ofN l).map i64v ++ [i64v (j : Int)] = (ofN (l ++ [j])).map i64v := by simp [ofN]
theorem ofN_len (l : List Nat) : (ofN l).length = l.length := by simp [ofN]
/-- where the search for an outcome stands: so many pairs, the set of the opponents, the number that is left -/
structure Des (d : DrawD) (k0 : Nat) (ps : List Nat) (i s k : Nat) : Prop where
  len : ps.length = i
  pcn : pcn s (nD d) = i
  set : s < 2 ^ nD d
  lt : k < Rn (mayD d) (nD d) s
  get : (outsD d)[k0]? = ((On (mayD d) (nD d) s)[k]?).map (ps ++ ·)
theorem Des.start {d : DrawD} {k : Nat} (h : k < Rn (mayD d) (nD d) 0) : Des d k [] 0 0 k :=
  ⟨rfl, pcn_zero _, Nat.two_pow_pos _, h, by unfold outsD; cases (On (mayD d) (nD d) 0)[k]? <;> rfl⟩
theorem Des.next {d : DrawD} {k0 : Nat} {ps : List Nat} {i s k j : Nat} (h : Des d k0 ps i s k) (hi : i < nD d) (hj : j < nD d) (hb : s.testBit j = false) (hm : mayD d i j = true)
    (h1 : sumB (addK (mayD d) (nD d) s) j ≤ k) (h2 : k - sumB (addK (mayD d) (nD d) s) j < Rn (mayD d) (nD d) (wth s j)) : Des d k0 (ps ++ [j]) (i + 1) (wth s j) (k - sumB (addK (mayD d) (nD d) s) j) := by
  have hp := h.pcn
  have ha := addK_yes (may := mayD d) (n := nD d) hb (by rw [hp]; exact hm)
  refine ⟨by rw [List.length_append, h.len]; rfl, by rw [pcn_wth hb, if_pos hj, hp], wth_lt h.set hj, h2, ?_⟩
  rw [h.get, On_get (by rw [hp]; exact hi) hj hb (by rw [hp]; exact hm) h1 (by rw [sumB, ha]; omega), Option.map_map]
  congr 1
  funext x
  simp
theorem Des.done {d : DrawD} {k0 : Nat} {ps : List Nat} {s k : Nat} (h : Des d k0 ps (nD d) s k) : (outsD d).getD k0 [] = ps := by
  have hk := h.lt
  rw [← On_len, On_full h.pcn] at hk
  have hg := h.get
  rw [On_full h.pcn, show k = 0 by simpa using hk] at hg
  rw [List.getD_eq_getElem?_getD, hg]
  simp
/-- in the midst of the sum there is a term that goes beyond -/
theorem Des.not_all {d : DrawD} {k0 : Nat} {ps : List Nat} {i s k : Nat} (h : Des d k0 ps i s k) (hi : i < nD d) : k < sumB (addK (mayD d) (nD d) s) (nD d) := by
  have hF : 2 ^ nD d = (2 ^ nD d - 1) + 1 := by have := Nat.two_pow_pos (nD d); omega
  have hl := h.lt
  have hs := h.set
  have hne : s ≠ 2 ^ nD d - 1 := by
    rintro rfl
    have := h.pcn
    rw [pcn_full _ _ (Nat.le_refl _)] at this
    omega
  rw [Rn_step hF (by omega)] at hl
  exact hl
end Go.Proofs.Ytbkgkgigcohbpaa
