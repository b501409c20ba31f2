/- The specification of layer 23 in plain Lean. No program here. -/
import Derived.Test.YtpcodholllaceaaM2
namespace Go.Proofs.Ytpcodholllaceaa

/-- the power of a modulo P -/
def pw (a k : Nat) : Nat := sqm 2305843009213691579 64 1 (a % 2305843009213691579) k
/-- the value of a polynomial -/
def hor (cs : List Nat) (x : Nat) : Nat := cs.foldr (fun c y => (y * x % 1152921504606845789 + c) % 1152921504606845789) 0
def coefOk (c : Nat) : Bool := decide (c < 1152921504606845789)
def elOk (c : Nat) : Bool := decide (1 ≤ c) && decide (c < 2305843009213691579) && Nat.beq (pw c 1152921504606845789) 1
def shOk (s : Nat × Nat) : Bool := decide (1 ≤ s.1) && decide (s.1 ≤ 192) && decide (s.2 < 1152921504606845789)
def lenOk (n : Nat) : Bool := decide (1 ≤ n) && decide (n ≤ 24)
def allD (ok : Nat → Bool) (l : List Nat) : Bool := lenOk l.length && l.all ok
def powersD (cs : List Nat) : List Nat × Int := if allD coefOk cs then (cs.map (pw 4), 0) else ([], 230)
def splitD (cs : List Nat) (n : Int) : List (Nat × Nat) × Int := if allD coefOk cs ∧ 1 ≤ n ∧ n ≤ 192 then ((List.range n.toNat).map fun i => (i + 1, hor cs (i + 1)), 0) else ([], 230)
/-- the product of the powers of checks; k: the exponent of the first -/
def verP : List Nat → Nat → Nat → Nat → Nat
  | [], _, pr, _ => pr
  | c :: r, x, pr, k => verP r x (pr * pw c k % 2305843009213691579) (k * x % 1152921504606845789)
def verD (checks : List Nat) (s : Nat × Nat) : Bool := allD elOk checks && shOk s && Nat.beq (pw 4 s.2) (verP checks s.1 1 1)
def minusQ (a b : Nat) : Nat := (a + (1152921504606845789 - b)) % 1152921504606845789
/-- y times the product of x - xs[k], k < n, without that of i -/
def prodQ (l : List (Nat × Nat)) (i x : Nat) : Nat → Nat → Nat
  | 0, y => y
  | n + 1, y => if n = i then prodQ l i x n y else prodQ l i x n y * minusQ x (l.getD n (0, 0)).1 % 1152921504606845789
def invQ (a : Nat) : Nat := sqm 1152921504606845789 64 1 a (1152921504606845789 - 2)
def atTerm (l : List (Nat × Nat)) (x i : Nat) : Nat := prodQ l i x l.length (l.getD i (0, 0)).2 * invQ (prodQ l i (l.getD i (0, 0)).1 l.length 1) % 1152921504606845789
def atSum (l : List (Nat × Nat)) (x : Nat) : Nat → Nat
  | 0 => 0
  | i + 1 => (atSum l x i + atTerm l x i) % 1152921504606845789
def atD (l : List (Nat × Nat)) (x : Nat) : Nat := atSum l x l.length
/-- the first shares with different X, t at most -/
def firstStep (t : Nat) (f : List (Nat × Nat)) (s : Nat × Nat) : List (Nat × Nat) := if f.any (fun u => u.1 == s.1) = false ∧ f.length < t then f ++ [s] else f
def firstD (l : List (Nat × Nat)) (t : Nat) : List (Nat × Nat) := l.foldl (firstStep t) []
def joinD (l : List (Nat × Nat)) (t : Int) : Nat × Int :=
  if (1 ≤ t ∧ t ≤ 24) ∧ l.all shOk = true then
    if (firstD l t.toNat).length < t.toNat ∨ l.all (fun s => atD (firstD l t.toNat) s.1 == s.2) = false then (0, 230) else (atD (firstD l t.toNat) 0, 0)
  else (0, 230)
theorem sqm_lt {m : Nat} (hm : 1 < m) : ∀ f x a k, x < m → sqm m f x a k < m
  | 0, x, a, k, h => h
  | f + 1, x, a, k, h => by
    unfold sqm
    by_cases h0 : k = 0
    · rw [if_pos h0]; exact h
    · rw [if_neg h0]
      refine sqm_lt hm f _ _ _ ?_
      split
      · exact Nat.mod_lt _ (by omega)
      · exact h
theorem pw_lt (a k : Nat) : pw a k < 2305843009213691579 := sqm_lt (by decide) _ _ _ _ (by decide)
end Go.Proofs.Ytpcodholllaceaa
