import Derived.Test.YtgaanndidcdbpaaZF
import Derived.Laws.Bits64b
import Derived.Test.YtgaanndidcdbpaaBit
import Derived.KernelRfl
import Derived.Test.YtgaanndidcdbpaaMpK
import Derived.DeepKeys4
import Derived.BigQuiet
import Derived.Deep.OwnRows
import Derived.StillTailTactics
import Derived.Maps.OwnOps
import Derived.Deep.DeepCutAuto
namespace Go.Proofs.Ytgaanndidcdbpaa.Dw
open Go.RowKit

def idxF (p : Nat → Bool) (n : Nat) : Int := match (List.range n).find? p with | some i => i | none => -1
theorem idxF_none {p : Nat → Bool} {n : Nat} (h : ∀ j, j < n → p j = false) : idxF p n = -1 := by
  have : (List.range n).find? p = none := by rw [List.find?_eq_none]; intro x hx; simp [h x (List.mem_range.1 hx)]
  simp [idxF, this]
theorem idxF_some {p : Nat → Bool} {n k : Nat} (hk : k < n) (hp : p k = true) (h : ∀ j, j < k → p j = false) : idxF p n = k := by
  have : (List.range n).find? p = some k := by
    rw [List.find?_range_eq_some]; exact ⟨hp, by simpa using hk, fun j hj => by simp [h j hj]⟩
  simp [idxF, this]
theorem idxF_any (p : Nat → Bool) (n : Nat) : decide (0 ≤ idxF p n) = (List.range n).any p := by
  unfold idxF
  cases h : (List.range n).find? p with
  | none => 
    rw [List.find?_eq_none] at h
    have : (List.range n).any p = false := by rw [List.any_eq_false]; exact h
    simp [this]
  | some i =>
    have := List.find?_some h
    have hm := List.mem_of_find?_eq_some h
    have : (List.range n).any p = true := by rw [List.any_eq_true]; exact ⟨i, hm, this⟩
    simp [this]
def noneTo (p : Nat → Bool) (k : Nat) : Prop := ∀ j, j < k → p j = false
theorem noneTo_succ {p : Nat → Bool} {k : Nat} (h : noneTo p k) (hp : p k = false) : noneTo p (k + 1) := fun j hj => by
  rcases Nat.lt_or_ge j k with h1 | h1
  · exact h j h1
  · obtain rfl : j = k := by omega
    exact hp
/-- the place of a number in a list, -1 where it is not -/
def idxI (l : List Int) (x : Int) : Int := idxF (fun i => nthI l i == x) l.length
theorem range_anyI (l : List Int) (p : Int → Bool) : (List.range l.length).any (fun i => p (nthI l i)) = l.any p := by
  rw [Bool.eq_iff_iff, List.any_eq_true, List.any_eq_true]
  constructor
  · rintro ⟨i, hi, h⟩
    rw [List.mem_range] at hi
    exact ⟨nthI l i, by rw [nthI_get hi]; exact List.getElem_mem hi, h⟩
  · rintro ⟨x, hx, h⟩
    obtain ⟨i, hi, rfl⟩ := List.getElem_of_mem hx
    exact ⟨i, List.mem_range.2 hi, by rw [nthI_get hi]; exact h⟩
theorem idxI_has (l : List Int) (x : Int) : decide (0 ≤ idxI l x) = l.contains x := by
  unfold idxI
  rw [idxF_any, range_anyI l (fun y => y == x), List.contains_eq_any_beq, Bool.eq_iff_iff, List.any_eq_true, List.any_eq_true]
  constructor
  · rintro ⟨y, hy, h⟩; exact ⟨y, hy, by simp at h ⊢; exact h.symm⟩
  · rintro ⟨y, hy, h⟩; exact ⟨y, hy, by simp at h ⊢; exact h.symm⟩
theorem idxF_lo (p : Nat → Bool) (n : Nat) : -1 ≤ idxF p n := by
  unfold idxF
  split
  · omega
  · omega
end Go.Proofs.Ytgaanndidcdbpaa.Dw
/- The specification of layer 26 in plain Lean: which draws are valid. No program here. -/
namespace Go.Proofs.Ytgaanndidcdbpaa.Dw
structure DrawD where
  first : List Int
  second : List Int
  forb : List (Int × Int)
def okAt (l : List Int) (i : Nat) : Bool := decide (0 ≤ nthI l i) && (decide (nthI l i < 192) && !(l.take i).contains (nthI l i))
def potB (l : List Int) : Bool := (List.range l.length).all (okAt l) && (decide (0 < l.length) && decide (l.length ≤ 16))
def hasF (d : DrawD) (f : Int × Int) : Bool := d.first.contains f.1 && d.second.contains f.2
def checkB (d : DrawD) : Bool := (potB d.first && (potB d.second && (decide (d.first.length = d.second.length) && decide (d.forb.length ≤ 256)))) && d.forb.all (hasF d)
def checkD (d : DrawD) : Int := if checkB d then 0 else 260
def mayD (d : DrawD) (i k : Nat) : Bool := !d.forb.contains (nthI d.first i, nthI d.second k)
/-- the first k are all right -/
def potTo (l : List Int) (k : Nat) : Prop := ∀ j, j < k → okAt l j = true
theorem potTo_zero {l : List Int} : potTo l 0 := fun _ h => absurd h (by omega)
theorem potTo_succ {l : List Int} {k : Nat} (h : potTo l k) (hk : okAt l k = true) : potTo l (k + 1) := fun j hj => by
  rcases Nat.lt_or_ge j k with h1 | h1
  · exact h j h1
  · rw [show j = k by omega]; exact hk
theorem potB_all {l : List Int} (h : potTo l l.length) : potB l = (decide (0 < l.length) && decide (l.length ≤ 16)) := by
  unfold potB
  rw [List.all_eq_true.2 (fun j hj => h j (List.mem_range.1 hj)), Bool.true_and]
theorem potB_no {l : List Int} {k : Nat} (hk : k < l.length) (h : okAt l k = false) : potB l = false := by
  unfold potB
  rw [List.all_eq_false.2 ⟨k, List.mem_range.2 hk, by rw [h]; decide⟩, Bool.false_and]
theorem potB_len {l : List Int} (h : potB l = true) : 1 ≤ l.length ∧ l.length ≤ 16 := by
  unfold potB at h
  simp only [Bool.and_eq_true, decide_eq_true_eq] at h
  omega
end Go.Proofs.Ytgaanndidcdbpaa.Dw
/- Plain mathematics of draws: the ways to go on from a set of clubs. No program here. -/
namespace Go.Proofs.Ytgaanndidcdbpaa.Dw

/-- the set with k -/
def wth (s k : Nat) : Nat := s ||| 2 ^ k
/-- how many of the first n are in the set -/
def pcn (s : Nat) : Nat → Nat
  | 0 => 0
  | n + 1 => pcn s n + (if s.testBit n then 1 else 0)
def sumB (f : Nat → Nat) : Nat → Nat
  | 0 => 0
  | k + 1 => sumB f k + f k
def fct : Nat → Nat
  | 0 => 1
  | n + 1 => (n + 1) * fct n
theorem sumB_congr {f g : Nat → Nat} : ∀ {n : Nat}, (∀ k, k < n → f k = g k) → sumB f n = sumB g n
  | 0, _ => rfl
  | n + 1, h => by rw [sumB, sumB, sumB_congr (fun k hk => h k (by omega)), h n (by omega)]
theorem sumB_add (f g : Nat → Nat) : ∀ n, sumB (fun k => f k + g k) n = sumB f n + sumB g n
  | 0 => rfl
  | n + 1 => by rw [sumB, sumB, sumB, sumB_add f g n]; omega
theorem sumB_zero : ∀ n, sumB (fun _ => 0) n = 0
  | 0 => rfl
  | n + 1 => by rw [sumB, sumB_zero n]
theorem sumB_mul (f : Nat → Nat) (c : Nat) : ∀ n, sumB (fun k => c * f k) n = c * sumB f n
  | 0 => by simp [sumB]
  | n + 1 => by rw [sumB, sumB, sumB_mul f c n, Nat.mul_add]
theorem sumB_le {f g : Nat → Nat} : ∀ {n : Nat}, (∀ k, k < n → f k ≤ g k) → sumB f n ≤ sumB g n
  | 0, _ => Nat.le_refl _
  | n + 1, h => by rw [sumB, sumB]; exact Nat.add_le_add (sumB_le fun k hk => h k (by omega)) (h n (by omega))
theorem sumB_mono {f : Nat → Nat} {m n : Nat} (h : m ≤ n) : sumB f m ≤ sumB f n := by
  induction n with
  | zero => rw [show m = 0 by omega]; exact Nat.le_refl _
  | succ n ih =>
    rcases Nat.lt_or_ge m (n + 1) with hm | hm
    · have := ih (by omega); rw [sumB]; omega
    · rw [show m = n + 1 by omega]; exact Nat.le_refl _
theorem sumB_term {f : Nat → Nat} {k n : Nat} (h : k < n) : f k ≤ sumB f n := by
  have := sumB_mono (f := f) (show k + 1 ≤ n by omega)
  rw [sumB] at this
  omega
theorem wth_bit (s k j : Nat) : (wth s k).testBit j = (s.testBit j || decide (k = j)) := by
  unfold wth; rw [Nat.testBit_or, Nat.testBit_two_pow]
theorem wth_lt {s k n : Nat} (hs : s < 2 ^ n) (hk : k < n) : wth s k < 2 ^ n := by
  unfold wth
  exact Nat.or_lt_two_pow hs (Nat.pow_lt_pow_right (by omega) hk)
theorem wth_add {s k : Nat} (h : s.testBit k = false) : wth s k = s + 2 ^ k := by
  unfold wth
  have := Nat.two_pow_add_eq_or_of_lt (i := k) (b := s % 2 ^ k) (Nat.mod_lt _ (Nat.two_pow_pos k)) (s / 2 ^ k)
  have e : s = 2 ^ k * (s / 2 ^ k) + s % 2 ^ k := (Nat.div_add_mod s (2 ^ k)).symm
  have h2 : s / 2 ^ k % 2 = 0 := by
    rw [Nat.testBit_eq_decide_div_mod_eq] at h
    have := of_decide_eq_false h
    omega
  apply Nat.eq_of_testBit_eq
  intro j
  rw [Nat.testBit_or, Nat.testBit_two_pow, Nat.add_comm s]
  by_cases hj : j = k
  · subst hj
    rw [Nat.testBit_two_pow_add_eq, h]
    simp
  · have hd : decide (k = j) = false := decide_eq_false (fun e => hj e.symm)
    rw [hd, Bool.or_false]
    rcases Nat.lt_or_ge j k with hlt | hge
    · rw [Nat.testBit_two_pow_add_gt hlt]
    · have hgt : k < j := by omega
      rw [Nat.testBit_eq_decide_div_mod_eq, Nat.testBit_eq_decide_div_mod_eq]
      obtain ⟨d, rfl⟩ : ∃ d, j = k + 1 + d := ⟨j - (k + 1), by omega⟩
      have p1 : 2 ^ (k + 1 + d) = 2 ^ k * (2 * 2 ^ d) := by rw [Nat.pow_add, Nat.pow_add]; simp [Nat.mul_assoc]
      simp only [p1, ← Nat.div_div_eq_div_mul]
      rw [Nat.add_div_left _ (Nat.two_pow_pos k), show (s / 2 ^ k).succ / 2 = s / 2 ^ k / 2 by omega]
theorem pcn_wth {s k : Nat} (h : s.testBit k = false) : ∀ n, pcn (wth s k) n = pcn s n + (if k < n then 1 else 0)
  | 0 => by simp [pcn]
  | n + 1 => by
    rw [pcn, pcn, pcn_wth h n, wth_bit]
    by_cases e : k = n
    · subst e
      rw [h]; simp
    · have hd : decide (k = n) = false := decide_eq_false e
      rw [hd, Bool.or_false]
      by_cases hlt : k < n
      · rw [if_pos hlt, if_pos (show k < n + 1 by omega)]; omega
      · rw [if_neg hlt, if_neg (show ¬ k < n + 1 by omega)]; omega
theorem pcn_le (s : Nat) : ∀ n, pcn s n ≤ n
  | 0 => Nat.le_refl _
  | n + 1 => by have := pcn_le s n; rw [pcn]; split <;> omega
theorem pcn_zero : ∀ n, pcn 0 n = 0
  | 0 => rfl
  | n + 1 => by rw [pcn, pcn_zero n]; simp
/-- those that are free -/
theorem free_sum (s : Nat) : ∀ n, sumB (fun k => if !s.testBit k then 1 else 0) n + pcn s n = n
  | 0 => rfl
  | n + 1 => by
    have := free_sum s n
    rw [sumB, pcn]
    have e : (if (!s.testBit n) = true then 1 else 0) + (if s.testBit n = true then 1 else 0) = 1 := by cases s.testBit n <;> rfl
    omega
section
variable (may : Nat → Nat → Bool) (n : Nat)
/-- the ways to go on: f clubs are left, club i is next, the opponents of s are taken -/
def outs : Nat → Nat → Nat → List (List Nat)
  | 0, _, _ => [[]]
  | f + 1, i, s => (List.range n).flatMap fun k => if !s.testBit k && may i k then (outs f (i + 1) (wth s k)).map (k :: ·) else []
/-- how many ways -/
def rest : Nat → Nat → Nat → Nat
  | 0, _, _ => 1
  | f + 1, i, s => sumB (fun k => if !s.testBit k && may i k then rest f (i + 1) (wth s k) else 0) n
theorem flatMap_len {α : Type} (g : Nat → List α) : ∀ n, ((List.range n).flatMap g).length = sumB (fun k => (g k).length) n
  | 0 => rfl
  | n + 1 => by rw [List.range_succ, List.flatMap_append, List.length_append, flatMap_len g n, sumB]; simp
theorem outs_len : ∀ f i s, (outs may n f i s).length = rest may n f i s
  | 0, _, _ => rfl
  | f + 1, i, s => by
    rw [outs, rest, flatMap_len]
    refine sumB_congr fun k _ => ?_
    split
    · rw [List.length_map, outs_len]
    · rfl
/-- at most f! ways -/
theorem rest_le : ∀ f i s, pcn s n + f = n → rest may n f i s ≤ fct f
  | 0, _, _, _ => Nat.le_refl _
  | f + 1, i, s, h => by
    rw [rest]
    have hf := free_sum s n
    have h1 : sumB (fun k => if !s.testBit k && may i k then rest may n f (i + 1) (wth s k) else 0) n ≤ sumB (fun k => fct f * (if !s.testBit k then 1 else 0)) n := by
      refine sumB_le fun k hk => ?_
      by_cases hb : s.testBit k = true
      · rw [hb]; simp
      · have hb : s.testBit k = false := by simpa using hb
        rw [hb]
        by_cases hm : may i k = true
        · rw [hm]
          simp only [Bool.not_false, Bool.and_self, if_pos, Nat.mul_one]
          exact rest_le f (i + 1) (wth s k) (by rw [pcn_wth hb, if_pos hk]; omega)
        · have hm : may i k = false := by simpa using hm
          rw [hm]; simp
    rw [sumB_mul, show sumB (fun k => if !s.testBit k then 1 else 0) n = f + 1 by omega] at h1
    rw [fct, Nat.mul_comm]
    exact h1
/-- all pairs permitted: f! ways -/
theorem rest_all (hm : ∀ i k, may i k = true) : ∀ f i s, pcn s n + f = n → rest may n f i s = fct f
  | 0, _, _, _ => rfl
  | f + 1, i, s, h => by
    rw [rest]
    have hf := free_sum s n
    have h1 : sumB (fun k => if !s.testBit k && may i k then rest may n f (i + 1) (wth s k) else 0) n = sumB (fun k => fct f * (if !s.testBit k then 1 else 0)) n := by
      refine sumB_congr fun k hk => ?_
      rw [hm, Bool.and_true]
      by_cases hb : s.testBit k = true
      · rw [hb]; simp
      · have hb : s.testBit k = false := by simpa using hb
        rw [hb]
        simp only [Bool.not_false, if_pos, Nat.mul_one]
        exact rest_all hm f (i + 1) (wth s k) (by rw [pcn_wth hb, if_pos hk]; omega)
    rw [h1, sumB_mul, show sumB (fun k => if !s.testBit k then 1 else 0) n = f + 1 by omega, fct, Nat.mul_comm]
theorem fct_pos : ∀ f, 0 < fct f
  | 0 => Nat.one_pos
  | f + 1 => Nat.mul_pos (by omega) (fct_pos f)
theorem fct_mono {a b : Nat} (h : a ≤ b) : fct a ≤ fct b := by
  induction b with
  | zero => rw [show a = 0 by omega]; exact Nat.le_refl _
  | succ b ih =>
    rcases Nat.lt_or_ge a (b + 1) with hm | hm
    · have := ih (by omega)
      rw [fct]
      exact Nat.le_trans this (Nat.le_mul_of_pos_left _ (by omega))
    · rw [show a = b + 1 by omega]; exact Nat.le_refl _
end
end Go.Proofs.Ytgaanndidcdbpaa.Dw
/- The count of ones by adding halves (64 bits), for numbers below 2^16. No program here. -/
namespace Go.Proofs.Ytgaanndidcdbpaa.Dw
def oA (x : Nat) : Nat := Nat.mod (Nat.add (Nat.land (Nat.div x 2) 6148914691236517205) (Nat.land x 6148914691236517205)) 18446744073709551616
def oB (x : Nat) : Nat := Nat.mod (Nat.add (Nat.land (Nat.div x 4) 3689348814741910323) (Nat.land x 3689348814741910323)) 18446744073709551616
def oC (x : Nat) : Nat := Nat.land (Nat.mod (Nat.add (Nat.div x 16) x) 18446744073709551616) 1085102592571150095
def oD (x : Nat) : Nat := Nat.mod (Nat.add x (Nat.div x 256)) 18446744073709551616
def oE (x : Nat) : Nat := Nat.mod (Nat.add x (Nat.div x 65536)) 18446744073709551616
def oF (x : Nat) : Nat := Nat.mod (Nat.add x (Nat.div x 4294967296)) 18446744073709551616
def oZ (x : Nat) : Nat := Nat.mod (oF (oE (oD (oC (oB (oA x)))))) 128
/-- the law at 2^d numbers from s on; c: the count of s -/
def okO : Nat → Nat → Nat → Bool
  | 0, s, c => Nat.beq (oZ s) c
  | d + 1, s, c => match okO d s c with | true => okO d (Nat.add s (Nat.pow 2 d)) (Nat.add c 1) | false => false
theorem okO_succ (d s c : Nat) : okO (d + 1) s c = true → okO d s c = true ∧ okO d (s + 2 ^ d) (c + 1) = true := by
  intro h
  unfold okO at h
  cases e : okO d s c <;> rw [e] at h
  · cases h
  · exact ⟨rfl, h⟩
theorem okO_at : ∀ d s x c, okO d s c = true → d ≤ 16 → (∃ q, s = 2 ^ d * q) → c = pcn s 16 → s ≤ x → x < s + 2 ^ d → oZ x = pcn x 16
  | 0, s, x, c, h, _, _, hc, h1, h2 => by
    have : x = s := by simp at h2; omega
    subst this
    rw [← hc]
    exact Nat.eq_of_beq_eq_true h
  | d + 1, s, x, c, h, hd, hq, hc, h1, h2 => by
    have h := okO_succ d s c h
    obtain ⟨q, hq⟩ := hq
    have hq' : s = 2 ^ d * (2 * q) := by rw [hq, Nat.pow_succ, Nat.mul_assoc]
    have hb : s.testBit d = false := by
      rw [Nat.testBit_eq_decide_div_mod_eq, hq', Nat.mul_div_cancel_left _ (Nat.two_pow_pos d), Nat.mul_mod_right]; rfl
    rcases Nat.lt_or_ge x (s + 2 ^ d) with h3 | h3
    · exact okO_at d s x c h.1 (by omega) ⟨2 * q, hq'⟩ hc h1 h3
    · refine okO_at d (s + 2 ^ d) x (c + 1) h.2 (by omega) ⟨2 * q + 1, by rw [hq', Nat.mul_succ]⟩ ?_ h3 (by rw [Nat.pow_succ] at h2; omega)
      rw [← wth_add hb, pcn_wth hb, if_pos (by omega), hc]
theorem ok_all : okO 16 0 0 = true := by kernel_rfl
theorem iA (x : Nat) (hx : x < 18446744073709551616) : IntKind.u64.wrap (bits .and .u64 ((x : Int) / 2) 6148914691236517205 + bits .and .u64 (x : Int) 6148914691236517205) = (oA x : Int) := by
  have e1 := bits_and_u64_nat (x / 2) 6148914691236517205 (by omega) (by omega)
  have e2 := bits_and_u64_nat x 6148914691236517205 (by omega) (by omega)
  have e3 : ((x / 2 : Nat) : Int) = (x : Int) / 2 := by omega
  rw [e3] at e1
  exact (congrArg IntKind.u64.wrap (congr (congrArg (fun a b : Int => a + b) e1) e2)).trans ((congrArg IntKind.u64.wrap (by exact (Int.natCast_add _ _).symm)).trans (wrap_u64_nat _))
theorem iB (x : Nat) (hx : x < 18446744073709551616) : IntKind.u64.wrap (bits .and .u64 ((x : Int) / 4) 3689348814741910323 + bits .and .u64 (x : Int) 3689348814741910323) = (oB x : Int) := by
  have e1 := bits_and_u64_nat (x / 4) 3689348814741910323 (by omega) (by omega)
  have e2 := bits_and_u64_nat x 3689348814741910323 (by omega) (by omega)
  have e3 : ((x / 4 : Nat) : Int) = (x : Int) / 4 := by omega
  rw [e3] at e1
  exact (congrArg IntKind.u64.wrap (congr (congrArg (fun a b : Int => a + b) e1) e2)).trans ((congrArg IntKind.u64.wrap (by exact (Int.natCast_add _ _).symm)).trans (wrap_u64_nat _))
theorem iC (x : Nat) : bits .and .u64 (IntKind.u64.wrap ((x : Int) / 16 + (x : Int))) 1085102592571150095 = (oC x : Int) := by
  have e : IntKind.u64.wrap ((x : Int) / 16 + (x : Int)) = (((x / 16 + x) % 18446744073709551616 : Nat) : Int) := by rw [IntKind.wrap_u64]; omega
  rw [e]
  exact bits_and_u64_nat _ 1085102592571150095 (Nat.mod_lt _ (by omega)) (by omega)
theorem iD (x : Nat) : IntKind.u64.wrap ((x : Int) + (x : Int) / 256) = (oD x : Int) := by
  have e : oD x = (x + x / 256) % 18446744073709551616 := rfl
  rw [IntKind.wrap_u64, e]; omega
theorem iE (x : Nat) : IntKind.u64.wrap ((x : Int) + (x : Int) / 65536) = (oE x : Int) := by
  have e : oE x = (x + x / 65536) % 18446744073709551616 := rfl
  rw [IntKind.wrap_u64, e]; omega
theorem iF (x : Nat) : IntKind.u64.wrap ((x : Int) + (x : Int) / 4294967296) = (oF x : Int) := by
  have e : oF x = (x + x / 4294967296) % 18446744073709551616 := rfl
  rw [IntKind.wrap_u64, e]; omega
theorem oA_lt (x : Nat) : oA x < 18446744073709551616 := Nat.mod_lt _ (by omega)
theorem oF_lt (x : Nat) : oF (oE (oD (oC x))) < 9223372036854775808 := by
  have h : oC x ≤ 1085102592571150095 := Nat.and_le_right
  generalize oC x = c at h
  have e1 : oD c ≤ c + c / 256 := Nat.mod_le _ _
  have e2 : oE (oD c) ≤ oD c + oD c / 65536 := Nat.mod_le _ _
  have e3 : oF (oE (oD c)) ≤ oE (oD c) + oE (oD c) / 4294967296 := Nat.mod_le _ _
  omega
theorem oZ_and (y : Nat) (h : y < 9223372036854775808) : bits .and .i64 (y : Int) 127 = ((y % 128 : Nat) : Int) := by
  rw [show (127 : Int) = ((127 : Nat) : Int) from rfl, bits_and_i64_nat y 127 h (by omega), show 127 = 2 ^ 7 - 1 from rfl, Nat.and_two_pow_sub_one_eq_mod]
end Go.Proofs.Ytgaanndidcdbpaa.Dw
/- Plain mathematics of draws: the numbers of the ways, set by set. No program here. -/
namespace Go.Proofs.Ytgaanndidcdbpaa.Dw
theorem pcn_succ_lt {s n : Nat} (h : s < 2 ^ n) : s.testBit n = false := Nat.testBit_lt_two_pow h
theorem pcn_ext {s n : Nat} (h : s < 2 ^ n) : ∀ d, pcn s (n + d) = pcn s n
  | 0 => rfl
  | d + 1 => by
    have h2 : s < 2 ^ (n + d) := Nat.lt_of_lt_of_le h (Nat.pow_le_pow_right (by omega) (by omega))
    rw [← Nat.add_assoc, pcn, pcn_ext h d, Nat.testBit_lt_two_pow h2]; simp
theorem pcn_16 {s n : Nat} (h : s < 2 ^ n) (hn : n ≤ 16) : pcn s 16 = pcn s n := by
  have := pcn_ext h (16 - n)
  rwa [show n + (16 - n) = 16 by omega] at this
theorem pcn_all {s : Nat} : ∀ {n : Nat}, pcn s n = n → ∀ j, j < n → s.testBit j = true
  | 0, _, _, h => absurd h (by omega)
  | n + 1, e, j, h => by
    have hl := pcn_le s n
    rw [pcn] at e
    have hb : s.testBit n = true := by
      cases hb : s.testBit n
      · rw [hb] at e; simp at e; omega
      · rfl
    rw [hb] at e
    simp at e
    rcases Nat.lt_or_ge j n with h1 | h1
    · exact pcn_all e j h1
    · rw [show j = n by omega]; exact hb
theorem pcn_full (n : Nat) : ∀ m, m ≤ n → pcn (2 ^ n - 1) m = m
  | 0, _ => rfl
  | m + 1, h => by
    rw [pcn, pcn_full n m (by omega), Nat.testBit_two_pow_sub_one, decide_eq_true (show m < n by omega), if_pos rfl]
theorem pcn_lt {s n F : Nat} (hF : 2 ^ n = F + 1) (h : s < F) : pcn s n < n := by
  rcases Nat.lt_or_ge (pcn s n) n with h1 | h1
  · exact h1
  · have e : pcn s n = n := Nat.le_antisymm (pcn_le s n) h1
    have hs : s = 2 ^ n - 1 := by
      apply Nat.eq_of_testBit_eq
      intro j
      rw [Nat.testBit_two_pow_sub_one]
      rcases Nat.lt_or_ge j n with h2 | h2
      · rw [pcn_all e j h2, decide_eq_true h2]
      · rw [Nat.testBit_lt_two_pow (Nat.lt_of_lt_of_le (show s < 2 ^ n by omega) (Nat.pow_le_pow_right (by omega) h2)), decide_eq_false (by omega)]
    omega
theorem and_pow (s k : Nat) : s &&& 2 ^ k = if s.testBit k then 2 ^ k else 0 := by
  apply Nat.eq_of_testBit_eq
  intro j
  rw [Nat.testBit_and, Nat.testBit_two_pow]
  by_cases e : k = j
  · subst e
    cases s.testBit k <;> simp
  · rw [decide_eq_false e, Bool.and_false]
    split
    · rw [Nat.testBit_two_pow, decide_eq_false e]
    · rw [Nat.zero_testBit]
section
variable (may : Nat → Nat → Bool) (n : Nat)
/-- the ways to go on from a set -/
def Rn (s : Nat) : Nat := rest may n (n - pcn s n) (pcn s n) s
/-- what the opponent k adds -/
def addK (s k : Nat) : Nat := if !s.testBit k && may (pcn s n) k then Rn may n (wth s k) else 0
variable {may n}
theorem Rn_full {F : Nat} (hF : 2 ^ n = F + 1) : Rn may n F = 1 := by
  unfold Rn
  have : pcn F n = n := by have := pcn_full n n (Nat.le_refl _); rwa [show 2 ^ n - 1 = F by omega] at this
  rw [this, Nat.sub_self, rest]
theorem Rn_step {s F : Nat} (hF : 2 ^ n = F + 1) (h : s < F) : Rn may n s = sumB (addK may n s) n := by
  have hl := pcn_lt hF h
  obtain ⟨f, hf⟩ : ∃ f, n - pcn s n = f + 1 := ⟨n - pcn s n - 1, by omega⟩
  unfold Rn
  rw [hf, rest]
  refine sumB_congr fun k hk => ?_
  unfold addK
  by_cases hb : s.testBit k = true
  · rw [hb]; simp
  · have hb : s.testBit k = false := by simpa using hb
    unfold Rn
    rw [pcn_wth hb, if_pos hk, show n - (pcn s n + 1) = f by omega]
theorem fct_16 : fct 16 = 20922789888000 := by decide
theorem Rn_le (s : Nat) (hn : n ≤ 16) : Rn may n s ≤ 20922789888000 := by
  unfold Rn
  have := pcn_le s n
  exact fct_16 ▸ Nat.le_trans (rest_le may n _ _ _ (by omega)) (fct_mono (by omega))
theorem part_le {s F k : Nat} (hF : 2 ^ n = F + 1) (h : s < F) (hn : n ≤ 16) (hk : k ≤ n) : sumB (addK may n s) k ≤ 20922789888000 :=
  Nat.le_trans (sumB_mono hk) (Rn_step (may := may) hF h ▸ Rn_le s hn)
theorem addK_yes {s k : Nat} (h1 : s.testBit k = false) (h2 : may (pcn s n) k = true) : addK may n s k = Rn may n (wth s k) := by
  unfold addK; rw [h1, h2]; rfl
theorem addK_in {s k : Nat} (h1 : s.testBit k = true) : addK may n s k = 0 := by
  unfold addK; rw [h1]; rfl
theorem addK_no {s k : Nat} (h2 : may (pcn s n) k = false) : addK may n s k = 0 := by
  unfold addK; rw [h2, Bool.and_false]; rfl
theorem wth_gt {s k : Nat} (h1 : s.testBit k = false) : s < wth s k := by
  rw [wth_add h1]; have := Nat.two_pow_pos k; omega
end
end Go.Proofs.Ytgaanndidcdbpaa.Dw
/- Plain mathematics of draws: the outcome with a number, the number of an outcome, their order. No program here. -/
namespace Go.Proofs.Ytgaanndidcdbpaa.Dw
theorem flatMap_get {α : Type} (g : Nat → List α) {j k : Nat} : ∀ {n : Nat}, j < n → sumB (fun i => (g i).length) j ≤ k → k < sumB (fun i => (g i).length) (j + 1) → ((List.range n).flatMap g)[k]? = (g j)[k - sumB (fun i => (g i).length) j]?
  | 0, h, _, _ => absurd h (by omega)
  | n + 1, h, h1, h2 => by
    rw [List.range_succ, List.flatMap_append]
    have hl := flatMap_len g n
    rcases Nat.lt_or_ge j n with hj | hj
    · have hm := sumB_mono (f := fun i => (g i).length) (show j + 1 ≤ n by omega)
      rw [List.getElem?_append_left (by rw [hl]; omega)]
      exact flatMap_get g hj h1 h2
    · obtain rfl : j = n := by omega
      rw [List.getElem?_append_right (by rw [hl]; exact h1), hl, List.flatMap_singleton]
section
variable (may : Nat → Nat → Bool) (n : Nat)
/-- the ways to go on from a set, written out -/
def On (s : Nat) : List (List Nat) := outs may n (n - pcn s n) (pcn s n) s
/-- those that go on with the opponent k -/
def OnK (s k : Nat) : List (List Nat) := if !s.testBit k && may (pcn s n) k then (On may n (wth s k)).map (k :: ·) else []
variable {may n}
theorem On_len (s : Nat) : (On may n s).length = Rn may n s := outs_len ..
theorem OnK_len (s k : Nat) : (OnK may n s k).length = addK may n s k := by
  unfold OnK addK
  split
  · rw [List.length_map, On_len]
  · rfl
theorem On_full {s : Nat} (h : pcn s n = n) : On may n s = [[]] := by
  unfold On; rw [h, Nat.sub_self]; rfl
theorem flatMap_congr {α : Type} {g h : Nat → List α} : ∀ {n : Nat}, (∀ k, k < n → g k = h k) → (List.range n).flatMap g = (List.range n).flatMap h
  | 0, _ => rfl
  | n + 1, e => by
    rw [List.range_succ, List.flatMap_append, List.flatMap_append, flatMap_congr (fun k hk => e k (by omega)), List.flatMap_singleton, List.flatMap_singleton, e n (by omega)]
theorem On_step {s : Nat} (h : pcn s n < n) : On may n s = (List.range n).flatMap (OnK may n s) := by
  obtain ⟨f, hf⟩ : ∃ f, n - pcn s n = f + 1 := ⟨n - pcn s n - 1, by omega⟩
  unfold On
  rw [hf, outs]
  refine flatMap_congr fun k hk => ?_
  unfold OnK On
  cases hb : s.testBit k
  · rw [pcn_wth hb, if_pos hk, show n - (pcn s n + 1) = f by omega]
  · rfl
theorem OnK_sum (s k : Nat) : sumB (fun i => (OnK may n s i).length) k = sumB (addK may n s) k := sumB_congr fun i _ => OnK_len s i
theorem On_get {s j k : Nat} (h : pcn s n < n) (hj : j < n) (hb : s.testBit j = false) (hm : may (pcn s n) j = true) (h1 : sumB (addK may n s) j ≤ k) (h2 : k < sumB (addK may n s) (j + 1)) :
    (On may n s)[k]? = ((On may n (wth s j))[k - sumB (addK may n s) j]?).map (j :: ·) := by
  rw [On_step h, flatMap_get _ hj (by rw [OnK_sum]; exact h1) (by rw [OnK_sum]; exact h2), OnK_sum]
  have : OnK may n s j = (On may n (wth s j)).map (j :: ·) := by unfold OnK; rw [hb, hm]; rfl
  rw [this, List.getElem?_map]
/-- a list that goes on from a set -/
def okL (may : Nat → Nat → Bool) (n : Nat) : Nat → Nat → List Nat → Bool
  | _, _, [] => true
  | i, s, k :: l => (decide (k < n) && (!s.testBit k && may i k)) && okL may n (i + 1) (wth s k) l
theorem mem_outs : ∀ {f i s : Nat} {x : List Nat}, x ∈ outs may n f i s ↔ x.length = f ∧ okL may n i s x = true
  | 0, i, s, x => by
    rw [outs, List.mem_singleton]
    constructor
    · rintro rfl; exact ⟨rfl, rfl⟩
    · intro h; exact List.eq_nil_of_length_eq_zero h.1
  | f + 1, i, s, x => by
    rw [outs, List.mem_flatMap]
    constructor
    · rintro ⟨k, hk, hx⟩
      rw [List.mem_range] at hk
      split at hx
      · next hb =>
        rw [List.mem_map] at hx
        obtain ⟨y, hy, rfl⟩ := hx
        have := mem_outs.1 hy
        exact ⟨by rw [List.length_cons, this.1], by rw [okL, decide_eq_true hk, hb, this.2]; rfl⟩
      · exact absurd hx (List.not_mem_nil)
    · rintro ⟨h1, h2⟩
      cases x with
      | nil => simp at h1
      | cons k l =>
        rw [okL, Bool.and_eq_true, Bool.and_eq_true, decide_eq_true_eq] at h2
        refine ⟨k, List.mem_range.2 h2.1.1, ?_⟩
        rw [if_pos h2.1.2, List.mem_map]
        exact ⟨l, mem_outs.2 ⟨by simpa using h1, h2.2⟩, rfl⟩
/-- the order of lists -/
def ltL : List Nat → List Nat → Prop
  | a :: l, b :: m => a < b ∨ (a = b ∧ ltL l m)
  | _, _ => False
theorem ltL_irrefl : ∀ l, ¬ ltL l l
  | [], h => h
  | _ :: l, h => h.elim (fun h => absurd h (Nat.lt_irrefl _)) fun h => ltL_irrefl l h.2
theorem outs_sorted : ∀ f i s, (outs may n f i s).Pairwise ltL
  | 0, _, _ => List.pairwise_singleton _ _
  | f + 1, i, s => by
    rw [outs, List.pairwise_flatMap]
    refine ⟨fun k _ => ?_, ?_⟩
    · split
      · rw [List.pairwise_map]
        exact (outs_sorted f (i + 1) (wth s k)).imp fun h => Or.inr ⟨rfl, h⟩
      · exact List.Pairwise.nil
    · refine List.pairwise_lt_range.imp fun {a b} hab x hx y hy => ?_
      split at hx
      · split at hy
        · rw [List.mem_map] at hx hy
          obtain ⟨x', _, rfl⟩ := hx
          obtain ⟨y', _, rfl⟩ := hy
          exact Or.inl hab
        · exact absurd hy List.not_mem_nil
      · exact absurd hx List.not_mem_nil
theorem sorted_get {l : List (List Nat)} (h : l.Pairwise ltL) {i j : Nat} {x y : List Nat} (hx : l[i]? = some x) (hy : l[j]? = some y) : (x = y ↔ i = j) ∧ (i < j → ltL x y) := by
  obtain ⟨hi, rfl⟩ := List.getElem?_eq_some_iff.1 hx
  obtain ⟨hj, rfl⟩ := List.getElem?_eq_some_iff.1 hy
  have key : ∀ {a b : Nat} (ha : a < l.length) (hb : b < l.length), a < b → ltL l[a] l[b] := fun ha hb hab => List.pairwise_iff_getElem.1 h _ _ ha hb hab
  refine ⟨⟨fun e => ?_, fun e => by subst e; rfl⟩, fun e => key hi hj e⟩
  rcases Nat.lt_trichotomy i j with h1 | h1 | h1
  · exact absurd (e ▸ key hi hj h1) (ltL_irrefl _)
  · exact h1
  · exact absurd (e ▸ key hj hi h1) (ltL_irrefl _)
end
end Go.Proofs.Ytgaanndidcdbpaa.Dw
namespace Go.Proofs.Ytgaanndidcdbpaa.Dw
open Go.RowKit

theorem index_any (w : World) (M : Nat → Prop) (v : Value) (l : List Int) (h : IsInts w M v l) (x : Int) :
    Calls Try.prog 100 #[v, .int .i64 x] w fun e w' => e = .returned (.int .i64 (idxI l x)) ∧ w = w' := by
  have H := Lib.hid h
  obtain ⟨A, c, rfl, h1, h2, -⟩ := h
  go_enter Try.func100, Try.ntmps100
  go_wp2_with fail
  go_loop [8] (fun i => ∃ k : Nat, k ≤ l.length ∧ i = .int .i64 k ∧ Hid (noneTo (fun i => nthI l i == x) k)) (fun i => l.length - (intOf i).toNat)
  case atStart => exact ⟨0, Nat.zero_le _, rfl, Lib.hid (fun j hj => absurd hj (by omega))⟩
  case round =>
    obtain ⟨k, hk, rfl, HN⟩ := hrel
    by_cases hlt : k < l.length
    · obtain ⟨b, off, rfl, hbl, hck⟩ := H.out.at_ (Below.refl _ _) hlt
      have hlt' : (k : Int) < (l.length : Int) := by omega
      have hk0 : (0 : Int) ≤ (k : Int) := by omega
      obtain ⟨y, hy⟩ : ∃ y, nthI l k = y := ⟨_, rfl⟩
      rw [hy] at hck
      by_cases hxy : y = x
      · have HS := Lib.hid (idxF_some (p := fun i => nthI l i == x) hlt (by rw [hy]; simpa using hxy) HN.out)
        have ht : (x == y) = true := by simp [hxy]
        clear hxy hy
        go_wp2_with fail
        go_ret
        exact ⟨ret_int HS.out.symm, rfl⟩
      · have HS := Lib.hid (noneTo_succ HN.out (show (nthI l k == x) = false by rw [hy]; simpa using hxy))
        have ht : (x == y) = false := by simpa using fun e => hxy e.symm
        clear hxy hy
        go_wp2_with fail
        go_round
        case rel => exact ⟨k + 1, by omega, by go_num, HS⟩
        case measure => simp [intOf]; omega
    · have hnl : ¬ (k : Int) < (l.length : Int) := by omega
      obtain rfl : k = l.length := by omega
      have HS := Lib.hid (idxF_none (p := fun i => nthI l i == x) HN.out)
      go_wp2_with fail
      go_ret
      exact ⟨ret_int HS.out.symm, rfl⟩
theorem contains_any (w : World) (M : Nat → Prop) (v : Value) (l : List Int) (h : IsInts w M v l) (x : Int) :
    Calls Try.prog 85 #[v, .int .i64 x] w fun e w' => e = .returned (.bool (l.contains x)) ∧ w = w' := by
  have C := Lib.hid (index_any w M v l h x)
  obtain ⟨A, c, rfl, h1, h2, -⟩ := h
  rw [← idxI_has]
  generalize idxI l x = z at C ⊢
  go_enter Try.func85, Try.ntmps85
  go_wp2_with fail
  refine C.out.mono ?_
  rintro e w' ⟨rfl, rfl⟩
  go_wp2_with fail
  go_ret
  exact ⟨rfl, rfl⟩
theorem isPot_any (w : World) (M : Nat → Prop) (v : Value) (l : List Int) (h : IsInts w M v l) :
    Calls Try.prog 84 #[v] w fun e w' => e = .returned (.bool (potB l)) ∧ w = w' := by
  have H := Lib.hid h
  obtain ⟨A, c, rfl, h1, h2, -⟩ := h
  go_enter Try.func84, Try.ntmps84
  go_wp2_with fail
  go_loop [7] (fun i => ∃ k : Nat, k ≤ l.length ∧ i = .int .i64 k ∧ Hid (potTo l k)) (fun i => l.length - (intOf i).toNat)
  case atStart => exact ⟨0, Nat.zero_le _, rfl, Lib.hid potTo_zero⟩
  case round =>
    obtain ⟨k, hk, rfl, HP⟩ := hrel
    by_cases hlt : k < l.length
    · have CC := fun x => Lib.hid (contains_any w M _ (l.take k) (H.out.take k (by omega)) x)
      obtain ⟨b, off, rfl, hbl, hck⟩ := H.out.at_ (Below.refl _ _) hlt
      have hlt' : (k : Int) < (l.length : Int) := by omega
      have hk0 : (0 : Int) ≤ (k : Int) := by omega
      have hkc : (k : Int) ≤ (c : Int) := by omega
      have HYES := Lib.hid (fun h => potTo_succ HP.out (k := k) h)
      have HNO := Lib.hid (fun h => potB_no (l := l) (k := k) hlt h)
      have HOK : Hid (okAt l k = (decide (0 ≤ nthI l k) && (decide (nthI l k < 192) && !(l.take k).contains (nthI l k)))) := rfl
      generalize nthI l k = y at hck HOK
      by_cases y0 : y < 0
      · have HN := Lib.hid (HNO.out (by rw [HOK.out, decide_eq_false (by omega)]; rfl))
        go_wp2_with fail
        go_ret
        exact ⟨ret_bool HN.out.symm, rfl⟩
      · by_cases y1 : 192 ≤ y
        · have HN := Lib.hid (HNO.out (by rw [HOK.out, decide_eq_false (p := y < 192) (by omega)]; simp))
          go_wp2_with fail
          go_ret
          exact ⟨ret_bool HN.out.symm, rfl⟩
        · have CY := CC y
          obtain ⟨cb, hcb⟩ : ∃ cb, (l.take k).contains y = cb := ⟨_, rfl⟩
          rw [hcb] at CY HOK
          have y0' : ¬ y < 0 := y0
          have y1' : ¬ 192 ≤ y := y1
          clear CC hcb
          cases cb with
          | true =>
            have HN := Lib.hid (HNO.out (by rw [HOK.out]; simp))
            go_wp2_with fail
            refine CY.out.mono ?_
            rintro e w' ⟨rfl, rfl⟩
            go_wp2_with fail
            go_ret
            exact ⟨ret_bool HN.out.symm, rfl⟩
          | false =>
            have HN := Lib.hid (HYES.out (by rw [HOK.out, decide_eq_true (by omega), decide_eq_true (by omega)]; rfl))
            go_wp2_with fail
            refine CY.out.mono ?_
            rintro e w' ⟨rfl, rfl⟩
            go_wp2_with fail
            go_round
            case rel => exact ⟨k + 1, by omega, by go_num, HN⟩
            case measure => simp [intOf]; omega
    · have hnl : ¬ (k : Int) < (l.length : Int) := by omega
      obtain rfl : k = l.length := by omega
      have HA := Lib.hid (potB_all HP.out)
      by_cases g1 : (0 : Int) < (l.length : Int)
      · go_wp2_with fail
        go_ret
        exact ⟨Eq.trans (show _ = Ending.returned (.bool (decide ((l.length : Int) ≤ 16))) from rfl) (ret_bool (by rw [HA.out, decide_eq_true (show 0 < l.length by omega), Bool.true_and]; exact decide_eq_decide.2 (by omega))), rfl⟩
      · go_wp2_with fail
        go_ret
        exact ⟨Eq.trans (show _ = Ending.returned (.bool false) from rfl) (ret_bool (by rw [HA.out, decide_eq_false (show ¬ 0 < l.length by omega), Bool.false_and])), rfl⟩
end Go.Proofs.Ytgaanndidcdbpaa.Dw
namespace Go.Proofs.Ytgaanndidcdbpaa.Dw
open Go.RowKit

theorem quiet26 {P : Program} {f : FuncId} {args : Array Value} {w : World} {n : Nat} {v : Value}
    (h : Calls P f args (w.drewN n) fun e w' => e = .returned v ∧ w.drewN n = w') : Calls P f args (w.drewN n) fun e w'' => e = .returned v ∧ ∃ m, w'' = w.drewN m :=
  h.mono fun _ _ ⟨he, hm⟩ => ⟨he, n, hm.symm⟩
def Dr (w w' : World) : Prop := ∃ n, w' = w.drewN n
theorem Dr.refl (w : World) : Dr w w := ⟨0, rfl⟩
theorem Dr.drewN {w w' : World} (h : Dr w w') (n : Nat) : Dr w (w'.drewN n) := by obtain ⟨m, rfl⟩ := h; exact ⟨m + n, by rw [World.drewN_drewN]⟩
theorem Dr.below {w w' : World} (h : Dr w w') : Below w.heap.size w w' := by obtain ⟨n, rfl⟩ := h; exact below_drewN (Below.refl _ _) n
/-- a draw in memory -/
def IsDraw (w : World) (M : Nat → Prop) (v : Value) (d : DrawD) : Prop := ∃ v1 v2 v3, v = .agg #[v1, v2, v3] ∧ IsInts w M v1 d.first ∧ IsInts w M v2 d.second ∧ IsEdges w M v3 d.forb
theorem IsDraw.below {w w' : World} {M : Nat → Prop} {v : Value} {d : DrawD} (h : IsDraw w M v d) (hb : Below w.heap.size w w') : IsDraw w' M v d := by
  obtain ⟨v1, v2, v3, e, h1, h2, h3⟩ := h
  exact ⟨v1, v2, v3, e, IsSl.below h1 hb, IsSl.below h2 hb, IsSl.below h3 hb⟩
theorem checkD_eq (d : DrawD) {a b e f : Bool} (h1 : potB d.first = a) (h2 : potB d.second = b) (h3 : decide (d.first.length = d.second.length) = e) (h4 : decide (d.forb.length ≤ 256) = f) : checkB d = ((a && (b && (e && f))) && d.forb.all (hasF d)) := by
  unfold checkB; rw [h1, h2, h3, h4]
set_option maxHeartbeats 2000000 in
theorem check_any (w : World) (M : Nat → Prop) (v : Value) (d : DrawD) (h : IsDraw w M v d) :
    Calls Try.prog 48 #[v] w fun e w' => e = .returned (.int .i64 (checkD d)) ∧ Below w.heap.size w w' := by
  obtain ⟨v1, v2, v3, rfl, hi1, hi2, hi3⟩ := h
  have C1 := fun W (hB : Below w.heap.size w W) => Lib.hid (isPot_any W M v1 d.first (IsSl.below hi1 hB))
  have C2 := fun W (hB : Below w.heap.size w W) => Lib.hid (isPot_any W M v2 d.second (IsSl.below hi2 hB))
  have C3 := fun W (hB : Below w.heap.size w W) x => Lib.hid (contains_any W M v1 d.first (IsSl.below hi1 hB) x)
  have C4 := fun W (hB : Below w.heap.size w W) x => Lib.hid (contains_any W M v2 d.second (IsSl.below hi2 hB) x)
  have H3 := Lib.hid hi3
  obtain ⟨A1, c1, rfl, -, -, -⟩ := hi1
  obtain ⟨A2, c2, rfl, -, -, -⟩ := hi2
  obtain ⟨A3, c3, rfl, -, -, -⟩ := hi3
  obtain ⟨pa, hpa⟩ : ∃ x, potB d.first = x := ⟨_, rfl⟩
  obtain ⟨pb, hpb⟩ : ∃ x, potB d.second = x := ⟨_, rfl⟩
  obtain ⟨pe, hpe⟩ : ∃ x, decide (d.first.length = d.second.length) = x := ⟨_, rfl⟩
  obtain ⟨pf, hpf⟩ : ∃ x, decide (d.forb.length ≤ 256) = x := ⟨_, rfl⟩
  have HCH := Lib.hid (checkD_eq d hpa hpb hpe hpf)
  have HCD : Hid (checkD d = if checkB d then 0 else 260) := rfl
  rw [hpa] at C1
  rw [hpb] at C2
  have e3 : ((d.first.length : Int) != (d.second.length : Int)) = !pe := by rw [← hpe, Bool.eq_iff_iff]; simp; omega
  have e4 : decide ((256 : Int) < (d.forb.length : Int)) = !pf := by rw [← hpf, Bool.eq_iff_iff]; simp; omega
  have HF : Hid (pf = true → d.forb.length ≤ 256) := by show _ → _; rw [← hpf]; exact of_decide_eq_true
  clear hpa hpb hpe hpf
  cases pa with
  | false =>
    have HN : Hid (checkD d = 260) := by show _ = _; rw [HCD.out, HCH.out]; rfl
    go_enter Try.func48, Try.ntmps48
    go_wp2_with fail
    refine nameW fun W1 hW1 => ?_
    have hB1 : Below w.heap.size w W1 := by rw [hW1.out]; exact (Below.refl w.heap.size w).alloc (Nat.le_refl _) _
    refine (C1 _ hB1).out.mono ?_
    rintro e w' ⟨rfl, rfl⟩
    clear hW1
    go_wp2_with fail
    go_ret
    exact ⟨ret_int HN.out.symm, hB1⟩
  | true =>
    cases pb with
    | false =>
      have HN : Hid (checkD d = 260) := by show _ = _; rw [HCD.out, HCH.out]; rfl
      go_enter Try.func48, Try.ntmps48
      go_wp2_with fail
      refine nameW fun W1 hW1 => ?_
      have hB1 : Below w.heap.size w W1 := by rw [hW1.out]; exact (Below.refl w.heap.size w).alloc (Nat.le_refl _) _
      have k0 : W1.heap[w.heap.size]? = some (.cells #[.slice A1 d.first.length c1, .slice A2 d.second.length c2, .slice A3 d.forb.length c3] 73 (0, 0)) := (by rw [hW1.out]; simp only [heap_alloc_if]; rw [if_pos trivial])
      have e1 := cell_of (j := 1) k0 rfl
      refine (C1 _ hB1).out.mono ?_
      rintro e w' ⟨rfl, rfl⟩
      clear hW1 k0
      go_wp2_with fail
      refine (C2 _ hB1).out.mono ?_
      rintro e w' ⟨rfl, rfl⟩
      go_wp2_with fail
      go_ret
      exact ⟨ret_int HN.out.symm, hB1⟩
    | true =>
      go_enter Try.func48, Try.ntmps48
      go_wp2_with fail
      refine nameW fun W1 hW1 => ?_
      have hB1 : Below w.heap.size w W1 := by rw [hW1.out]; exact (Below.refl w.heap.size w).alloc (Nat.le_refl _) _
      have k0 : W1.heap[w.heap.size]? = some (.cells #[.slice A1 d.first.length c1, .slice A2 d.second.length c2, .slice A3 d.forb.length c3] 73 (0, 0)) := (by rw [hW1.out]; simp only [heap_alloc_if]; rw [if_pos trivial])
      have e0 := cell_of (j := 0) k0 rfl
      have e1 := cell_of (j := 1) k0 rfl
      have e2 := cell_of (j := 2) k0 rfl
      have HK0 := Lib.hid k0
      have HB1 := Lib.hid hB1
      refine (C1 _ hB1).out.mono ?_
      rintro e w' ⟨rfl, rfl⟩
      clear hW1 k0
      go_wp2_with fail
      refine (C2 _ hB1).out.mono ?_
      rintro e w' ⟨rfl, rfl⟩
      clear hB1
      cases pe with
      | false =>
        have HN : Hid (checkD d = 260) := by show _ = _; rw [HCD.out, HCH.out]; rfl
        go_wp2_with fail
        go_ret
        exact ⟨ret_int HN.out.symm, HB1.out⟩
      | true =>
        cases pf with
        | false =>
          have HN : Hid (checkD d = 260) := by show _ = _; rw [HCD.out, HCH.out]; rfl
          go_wp2_with fail
          go_ret
          exact ⟨ret_int HN.out.symm, HB1.out⟩
        | true =>
          have h256 := HF.out rfl
          go_wp2_with fail
          have hl1 := lt_heap HK0.out
          clear e0 e1 e2 e3 e4
          go_loopw [33] (fun i wr => ∃ k : Nat, k ≤ d.forb.length ∧ i = .int .i64 k ∧ Hid (upTo (hasF d) d.forb k) ∧ Hid (Below W1.heap.size W1 wr)) (fun i _ => d.forb.length - (intOf i).toNat)
          case atStart => exact ⟨0, Nat.zero_le _, rfl, Lib.hid upTo_zero, Lib.hid (Below.refl _ _)⟩
          case round =>
            obtain ⟨k, hk, rfl, HU, HB⟩ := hrel
            by_cases hlt : k < d.forb.length
            · obtain ⟨b, off, rfl, hbl, hck, hck1⟩ := H3.out.at_ (HB1.out.trans (HB.out.mono HB1.out.size)) hlt
              have hlt' : (k : Int) < (d.forb.length : Int) := by omega
              have hKr := (HB.out.block w.heap.size hl1).trans HK0.out
              have e0 := cell_of (j := 0) hKr rfl
              have e1 := cell_of (j := 1) hKr rfl
              have hszr := HB.out.size
              have hsz1 := HB1.out.size
              have hlr : w.heap.size < wr.heap.size := by omega
              have hbr : b < wr.heap.size := by omega
              have HYES := Lib.hid (fun h => upTo_succ HU.out hlt h)
              have HNO := Lib.hid (fun h => not_all (p := hasF d) hlt h)
              generalize d.forb[k] = f at hck hck1 HYES HNO
              obtain ⟨X, Y⟩ := f
              dsimp only at hck hck1
              have HOK : Hid (hasF d (X, Y) = (d.first.contains X && d.second.contains Y)) := rfl
              have CX := fun W hB => C3 W hB X
              have CY := fun W hB => C4 W hB Y
              generalize d.first.contains X = bx at CX HOK
              generalize d.second.contains Y = by' at CY HOK
              clear hKr
              cases bx with
              | false =>
                have HN : Hid (checkD d = 260) := by show _ = _; rw [HCD.out, HCH.out, HNO.out (by rw [HOK.out]; rfl)]; rfl
                go_wp2_with fail
                refine nameW fun W2 hW2 => ?_
                have hB2 : Below W1.heap.size W1 W2 := by rw [hW2.out]; exact HB.out.alloc hszr _
                refine (CX _ (HB1.out.trans (hB2.mono HB1.out.size))).out.mono ?_
                rintro e w' ⟨rfl, rfl⟩
                clear hW2
                go_wp2_with fail
                go_ret
                exact ⟨ret_int HN.out.symm, HB1.out.trans (hB2.mono HB1.out.size)⟩
              | true =>
                go_wp2_with fail
                refine nameW fun W2 hW2 => ?_
                have hB2 : Below W1.heap.size W1 W2 := by rw [hW2.out]; exact HB.out.alloc hszr _
                have k2 : W2.heap[wr.heap.size]? = some (.cells #[.int .i64 X, .int .i64 Y] 143 (0, 0)) := (by rw [hW2.out]; simp only [heap_alloc_if]; rw [if_pos trivial])
                have hK2 := (hB2.block w.heap.size hl1).trans HK0.out
                have f1 := cell_of (j := 1) hK2 rfl
                have f2 := cell_of (j := 1) k2 rfl
                have HB2 := Lib.hid hB2
                refine (CX _ (HB1.out.trans (hB2.mono HB1.out.size))).out.mono ?_
                rintro e w' ⟨rfl, rfl⟩
                clear hW2 k2 hK2 e0 e1 hck hck1 hB2
                go_wp2_with fail
                refine (CY _ (HB1.out.trans (HB2.out.mono HB1.out.size))).out.mono ?_
                rintro e w' ⟨rfl, rfl⟩
                cases by' with
                | false =>
                  have HN : Hid (checkD d = 260) := by show _ = _; rw [HCD.out, HCH.out, HNO.out (by rw [HOK.out]; rfl)]; rfl
                  go_wp2_with fail
                  go_ret
                  exact ⟨ret_int HN.out.symm, HB1.out.trans (HB2.out.mono HB1.out.size)⟩
                | true =>
                  have HN := Lib.hid (HYES.out (by rw [HOK.out]; rfl))
                  go_wp2_with fail
                  go_roundw
                  case rel => exact ⟨k + 1, by omega, by go_num, HN, HB2⟩
                  case measure => simp [intOf]; omega
            · have hnl : ¬ (k : Int) < (d.forb.length : Int) := by omega
              obtain rfl : k = d.forb.length := by omega
              have HN : Hid (checkD d = 0) := by show _ = _; rw [HCD.out, HCH.out, upTo_all HU.out]; rfl
              go_wp2_with fail
              go_ret
              exact ⟨ret_int HN.out.symm, HB1.out.trans (HB.out.mono HB1.out.size)⟩
theorem has_neg (l : List Int) (x : Int) : decide (idxI l x < 0) = !l.contains x := by
  rw [← idxI_has, Bool.eq_iff_iff]; simp
end Go.Proofs.Ytgaanndidcdbpaa.Dw
namespace Go.Proofs.Ytgaanndidcdbpaa.Dw
open Go.RowKit

theorem Try.rowEdge : (143 : TypeId) < Try.prog.types.size := of_decide_eq_true (by kernel_rfl)
theorem Try.cellsEdge : Try.prog.cellsOf 143 = 2 := by kernel_rfl
theorem Try.cellsInt : Try.prog.cellsOf 3 = 1 := by kernel_rfl
theorem Try.wideEdge : (match Try.prog.underlying 143 with | some (.array _ _) | some (.struct _) => true | _ => false) = true := by rw [Try.underlying143]
set_option maxRecDepth 100000 in
theorem Try.keyedEdge : Go.Maps.Keyed Try.prog 143 := Go.Maps.Keyed.of_law (deep_law_laid (by kernel_rfl) (m := 2) (by omega) Try.rowEdge (by kernel_rfl) Try.wideEdge)
theorem Try.keyTypeEdge : Try.prog.keyType 143 = true := by kernel_rfl
/-- an edge as a key -/
def edV (f : Int × Int) : Value := .agg #[.int .i64 f.1, .int .i64 f.2]
theorem wf64 {x : Int} (h1 : -9223372036854775808 ≤ x) (h2 : x ≤ 9223372036854775807) : (Lit.int .i64 x).wf = true := by
  simp [Lit.wf, IntKind.min, IntKind.max, IntKind.signed, IntKind.bits]; omega
theorem lits_int (P : Program) {t : TypeId} {q : IntKind} (hu : P.underlying t = some (.int q)) (d : Nat) (x : Int) (h : (Lit.int q x).wf = true) : P.keyLits (d + 1) t [.int q x] = some [.int q x] := by
  simp only [Program.keyLits, hu, h, and_self, if_pos]
set_option maxRecDepth 100000 in
theorem lits_edge (d : Nat) (x y : Int) (h1 : (Lit.int .i64 x).wf = true) (h2 : (Lit.int .i64 y).wf = true) : Try.prog.keyLits (d + 1 + 1) 143 [.int .i64 x, .int .i64 y] = some [.int .i64 x, .int .i64 y] := by
  conv => lhs; unfold Program.keyLits
  rw [Try.underlying143]
  have e1 := lits_int Try.prog Try.underlying3 d x h1
  have e2 := lits_int Try.prog Try.underlying3 d y h2
  simp only [Try.cellsEdge, Try.cellsInt, List.length_cons, List.length_nil, List.mapM_cons, List.mapM_nil, List.drop_zero, List.drop_succ_cons, List.take_succ_cons, List.take_zero, e1, e2]
  rw [if_pos ⟨trivial, by kernel_rfl⟩]
  rfl
set_option maxRecDepth 100000 in
theorem key_edge (f : Int × Int) (h1 : (Lit.int .i64 f.1).wf = true) (h2 : (Lit.int .i64 f.2).wf = true) : ∃ l, keyOf Try.prog 143 (edV f) = some l := by
  obtain ⟨m, hm⟩ : ∃ m, Try.prog.types.size = m + 1 := ⟨Try.prog.types.size - 1, (Nat.succ_pred_eq_of_pos (Nat.lt_of_le_of_lt (Nat.zero_le _) Try.rowEdge)).symm⟩
  have hf : (Value.agg #[.int .i64 f.1, .int .i64 f.2]).formed Try.prog 143 = true := by
    unfold Value.formed
    rw [Try.underlying143, Try.cellsEdge]
    rfl
  have hl := lits_edge m f.1 f.2 h1 h2
  unfold keyOf edV
  rw [Try.underlying143]
  simp only [hf, Try.keyTypeEdge, hm, Bool.and_self, if_pos, Value.cells]
  rw [hl]
  exact ⟨_, rfl⟩
theorem edV_inj (x y : Int × Int) (h : edV x = edV y) : x = y := by
  unfold edV at h
  simp only [Value.agg.injEq, Array.mk.injEq, List.cons.injEq, Value.int.injEq, true_and, and_true] at h
  exact Prod.ext h.1 h.2
end Go.Proofs.Ytgaanndidcdbpaa.Dw
namespace Go.Proofs.Ytgaanndidcdbpaa.Dw
open Go.RowKit

theorem ones64 (w : World) (x : Nat) (hx : x < 65536) :
    Calls Try.prog 102 #[.int .u64 x] w fun e w' => e = .returned (.int .i64 (pcn x 16)) ∧ w' = w := by
  go_enter Try.func102, Try.ntmps102
  go_wp2_with fail
  have hA := oA_lt x
  simp only [iA x (by omega), iB _ hA, iC, iD, iE, iF]
  have hF := oF_lt (oB (oA x))
  have e7 : wrap64 (oF (oE (oD (oC (oB (oA x))))) : Int) = (oF (oE (oD (oC (oB (oA x))))) : Int) := by unfold wrap64; omega
  have e8 : (oF (oE (oD (oC (oB (oA x))))) % 128 : Nat) = pcn x 16 := okO_at 16 0 x 0 ok_all (Nat.le_refl _) ⟨0, rfl⟩ (pcn_zero 16).symm (Nat.zero_le _) (by omega)
  rw [e7, oZ_and _ hF, e8]
  go_ret
  exact ⟨rfl, rfl⟩
theorem ones (w : World) (x : Nat) (hx : x < 65536) :
    Calls Try.prog 87 #[.int .u64 x] w fun e w' => e = .returned (.int .i64 (pcn x 16)) ∧ w' = w := by
  have C := Lib.hid (ones64 w x hx)
  go_enter Try.func87, Try.ntmps87
  go_wp2_with fail
  refine C.out.mono ?_
  rintro _ W ⟨rfl, rfl⟩
  go_wp2_with fail
  go_ret
  exact ⟨rfl, rfl⟩
end Go.Proofs.Ytgaanndidcdbpaa.Dw
namespace Go.Proofs.Ytgaanndidcdbpaa.Dw
open Go.RowKit

/-- the closure's cells in memory: bn holds the map of what is forbidden, bd the draw -/
def MayW (w : World) (M : Nat → Prop) (bn bd : Nat) (d : DrawD) : Prop := ∃ bm c v1 v2 v3,
  w.heap[bn]? = some (.cells #[.map (some bm)] 144 (0, 0)) ∧ w.heap[bd]? = some (.cells #[v1, v2, v3] 73 (0, 0)) ∧
  IsInts w M v1 d.first ∧ IsInts w M v2 d.second ∧ SetK edV Try.prog 143 4 w bm c (fun f => d.forb.contains f)
theorem Try.zeroBool (w : World) : (zeroValue 4).run Try.prog w = .ok (.bool false) w := by kernel_rfl
theorem MayW.below {w w' : World} {M : Nat → Prop} {bn bd : Nat} {d : DrawD} (h : MayW w M bn bd d) (hb : Below w.heap.size w w') : MayW w' M bn bd d := by
  obtain ⟨bm, c, v1, v2, v3, h1, h2, h3, h4, h5⟩ := h
  have g1 : bn < w.heap.size := (Array.getElem?_eq_some_iff.1 h1).1
  have g2 : bd < w.heap.size := (Array.getElem?_eq_some_iff.1 h2).1
  exact ⟨bm, c, v1, v2, v3, (hb.block bn g1).trans h1, (hb.block bd g2).trans h2, IsSl.below h3 hb, IsSl.below h4 hb, h5.below hb (Nat.le_refl _)⟩
theorem pot_range {l : List Int} (h : potB l = true) {i : Nat} (hi : i < l.length) : 0 ≤ nthI l i ∧ nthI l i < 192 := by
  unfold potB at h
  simp only [Bool.and_eq_true, List.all_eq_true, List.mem_range] at h
  have := h.1 i hi
  unfold okAt at this
  simp only [Bool.and_eq_true, decide_eq_true_eq] at this
  exact ⟨this.1, this.2.1⟩
set_option maxRecDepth 100000 in
theorem may_any (w : World) (M : Nat → Prop) (bn bd : Nat) (d : DrawD) (h : MayW w M bn bd d) (h1 : potB d.first = true) (h2 : potB d.second = true) (i k : Nat) (hi : i < d.first.length) (hk : k < d.second.length) :
    Calls Try.prog 86 #[.int .i64 i, .int .i64 k, .pointer (some ⟨bn, 0, none⟩), .pointer (some ⟨bd, 0, none⟩)] w fun e w' => e = .returned (.bool (mayD d i k)) ∧ ∃ n, w' = w.drewN n := by
  obtain ⟨bm, c, v1, v2, v3, k1, k2, hi1, hi2, hs⟩ := h
  have H1 := Lib.hid hi1
  have H2 := Lib.hid hi2
  obtain ⟨A1, c1, rfl, hl1, -, -⟩ := hi1
  obtain ⟨A2, c2, rfl, hl2, -, -⟩ := hi2
  obtain ⟨b1, o1, rfl, -, e1⟩ := H1.out.at_ (Below.refl _ _) hi
  obtain ⟨b2, o2, rfl, -, e2⟩ := H2.out.at_ (Below.refl _ _) hk
  have r1 := pot_range h1 hi
  have r2 := pot_range h2 hk
  have HM : Hid (mayD d i k = !d.forb.contains (nthI d.first i, nthI d.second k)) := rfl
  generalize nthI d.first i = x at e1 r1 HM
  generalize nthI d.second k = y at e2 r2 HM
  obtain ⟨l, hl⟩ := key_edge (x, y) (wf64 (by omega) (by omega)) (wf64 (by omega) (by omega))
  have hlook : ∀ n, (Instr.lookup 144 (.map (some bm)) (.agg #[.int .i64 x, .int .i64 y]) false).run Try.prog (w.drewN n) = .ok (.bool (d.forb.contains (x, y))) (w.drewN n) := fun n =>
    (hs.drewN n).look Try.keyedEdge Try.underlying144 Try.underlying4 (Try.zeroBool _) hl
  have hlook0 := hlook 0
  have hn0 := cell_of (j := 0) k1 rfl
  have hd0 := cell_of (j := 0) k2 rfl
  have hd1 := cell_of (j := 1) k2 rfl
  generalize d.forb.contains (x, y) = z at hlook hlook0 HM
  have hii : (i : Int) < (d.first.length : Int) := by omega
  have hkk : (k : Int) < (d.second.length : Int) := by omega
  have hi0 : (0 : Int) ≤ (i : Int) := by omega
  have hk0 : (0 : Int) ≤ (k : Int) := by omega
  clear k1 k2 hs H1 H2
  go_enter Try.func86, Try.ntmps86
  go_wp2_with fail
  go_quiet (fail)
  go_wp2_with fail
  go_ret
  exact ⟨ret_bool HM.out.symm, _, rfl⟩
end Go.Proofs.Ytgaanndidcdbpaa.Dw
namespace Go.Proofs.Ytgaanndidcdbpaa.Dw
open Go.RowKit

/-- f is not among the first k -/
def noE (l : List (Int × Int)) (f : Int × Int) (k : Nat) : Prop := ∀ j, (h : j < l.length) → j < k → l[j] ≠ f
theorem noE_zero {l : List (Int × Int)} {f : Int × Int} : noE l f 0 := fun _ _ h => absurd h (by omega)
theorem noE_succ {l : List (Int × Int)} {f : Int × Int} {k : Nat} (h : noE l f k) (hk : k < l.length) (hne : l[k] ≠ f) : noE l f (k + 1) := fun j hj hjk => by
  rcases Nat.lt_or_ge j k with h1 | h1
  · exact h j hj h1
  · have : j = k := by omega
    subst this
    exact hne
theorem noE_all {l : List (Int × Int)} {f : Int × Int} (h : noE l f l.length) : l.contains f = false := by
  rw [Bool.eq_false_iff]
  intro hc
  rw [List.contains_iff_mem, List.mem_iff_getElem] at hc
  obtain ⟨j, hj, e⟩ := hc
  exact h j hj hj e
theorem hasE {l : List (Int × Int)} {f : Int × Int} {k : Nat} (hk : k < l.length) (h : l[k] = f) : l.contains f = true := by
  rw [List.contains_iff_mem, ← h]
  exact List.getElem_mem hk
end Go.Proofs.Ytgaanndidcdbpaa.Dw
namespace Go.Proofs.Ytgaanndidcdbpaa.Dw
open Go.RowKit
theorem pow16 {n : Nat} (h1 : 1 ≤ n) (h2 : n ≤ 16) : ∃ F, 2 ^ n = F + 1 ∧ 1 ≤ F ∧ F ≤ 65535 := by
  have e1 : 2 ^ 1 ≤ 2 ^ n := Nat.pow_le_pow_right (by omega) h1
  have e2 : 2 ^ n ≤ 2 ^ 16 := Nat.pow_le_pow_right (by omega) h2
  exact ⟨2 ^ n - 1, by omega, by omega, by omega⟩
theorem pow_wrap {n F : Nat} (hF : 2 ^ n = F + 1) (h : F ≤ 65535) : wrap64 (2 ^ n) = ((F + 1 : Nat) : Int) := by
  have : ((2 : Int) ^ n) = ((F + 1 : Nat) : Int) := by rw [← hF, Int.natCast_pow]; rfl
  rw [this]; unfold wrap64; omega
theorem make_u64 (S : Nat) (h : S ≤ 65536) (w : World) : (Instr.makeSlice 35 (.int .i64 (S : Int)) (.int .i64 (S : Int))).run Try.prog w = .ok (.slice (some ⟨w.heap.size, 0, none⟩) S S) (w.alloc (.cells (madeCells #[.int .u64 0] S) 23)) :=
  run_make_row' 35 23 (.int .u64 0) 8 Try.underlying35 (by kernel_rfl) rfl .i64 .i64 S (by omega) (by omega) w

theorem size_facts {n : Nat} (h1 : 1 ≤ n) (h2 : n ≤ 16) : ∃ F : Nat, 1 ≤ F ∧ F ≤ 65535 ∧ 2 ^ n = F + 1 ∧ wrap64 (2 ^ n) = ((F + 1 : Nat) : Int) ∧ wrap64 (((F + 1 : Nat) : Int) - 1) = (F : Int) ∧ wrap64 ((F : Int) + 1) = ((F + 1 : Nat) : Int) ∧ wrap64 ((F : Int) - 1) = (F : Int) - 1 ∧ (F : Int) < ((F + 1 : Nat) : Int) := by
  obtain ⟨F, e, a, b⟩ := pow16 h1 h2
  refine ⟨F, a, b, e, pow_wrap e b, ?_, ?_, ?_, ?_⟩ <;> first | omega | (unfold wrap64; omega)
end Go.Proofs.Ytgaanndidcdbpaa.Dw
namespace Go.Proofs.Ytgaanndidcdbpaa.Dw
open Go.RowKit
theorem pow_wrap' {k : Nat} (h : k < 16) : wrap64 (2 ^ k) = ((2 ^ k : Nat) : Int) := by
  have e2 : 2 ^ k ≤ 2 ^ 15 := Nat.pow_le_pow_right (by omega) (by omega)
  have e0 := Nat.two_pow_pos k
  have := pow_wrap (n := k) (F := 2 ^ k - 1) (by omega) (by omega)
  rw [this]; omega
theorem band_no {s k : Nat} (hs : s < 65536) (hk : k < 16) (h : s.testBit k = false) : bits .and .i64 (s : Int) (wrap64 (2 ^ k)) = 0 := by
  have e2 : 2 ^ k ≤ 2 ^ 15 := Nat.pow_le_pow_right (by omega) (by omega)
  rw [pow_wrap' hk, bits_and_i64_nat _ _ (by omega) (by omega), and_pow, h]
  rfl
theorem band_yes {s k : Nat} (hs : s < 65536) (hk : k < 16) (h : s.testBit k = true) : ∃ P : Nat, bits .and .i64 (s : Int) (wrap64 (2 ^ k)) = (P : Int) ∧ ¬ (P : Int) = 0 := by
  have e2 : 2 ^ k ≤ 2 ^ 15 := Nat.pow_le_pow_right (by omega) (by omega)
  have e0 := Nat.two_pow_pos k
  refine ⟨2 ^ k, ?_, by omega⟩
  rw [pow_wrap' hk, bits_and_i64_nat _ _ (by omega) (by omega), and_pow, h, if_pos rfl]
theorem bor_wth {s k : Nat} (hs : s < 65536) (hk : k < 16) : bits .or .i64 (s : Int) (wrap64 (2 ^ k)) = ((wth s k : Nat) : Int) := by
  have e2 : 2 ^ k ≤ 2 ^ 15 := Nat.pow_le_pow_right (by omega) (by omega)
  rw [pow_wrap' hk, bits_or_i64_nat _ _ (by omega) (by omega)]
  rfl
theorem wrap_pow2 {k : Nat} (h : k < 16) : IntKind.i64.wrap (2 ^ k) = ((2 ^ k : Nat) : Int) := by
  have e2 : 2 ^ k ≤ 2 ^ 15 := Nat.pow_le_pow_right (by omega) (by omega)
  have e : ((2 : Int) ^ k) = ((2 ^ k : Nat) : Int) := by rw [Int.natCast_pow]; rfl
  rw [e, wrap_i64_nat _ (by omega)]
/-- the same in the spelling of go_simp -/
theorem bor_wth2 {s k : Nat} (hs : s < 65536) (hk : k < 16) : bits .or .i64 (s : Int) (IntKind.i64.wrap (2 ^ k)) = ((wth s k : Nat) : Int) := by
  have e2 : 2 ^ k ≤ 2 ^ 15 := Nat.pow_le_pow_right (by omega) (by omega)
  rw [wrap_pow2 hk, bits_or_i64_nat _ _ (by omega) (by omega)]
  rfl
end Go.Proofs.Ytgaanndidcdbpaa.Dw
namespace Go.Proofs.Ytgaanndidcdbpaa.Dw
open Go.RowKit

theorem frz_of {w : World} {g j : Nat} {cs : Array Value} {t : TypeId} (h : w.heap[g]? = some (.cells cs t (0, 0))) : w.frozen? ⟨g, j, none⟩ = false := by simp [World.frozen?, h]
theorem upd_take {l : List (Int × Int)} {k : Nat} (hk : k < l.length) : updK (fun f => (l.take k).contains f) l[k] true = fun f => (l.take (k + 1)).contains f := by
  funext f
  unfold updK
  by_cases e : f = l[k]
  · rw [if_pos e, eq_comm, List.contains_iff_mem, List.take_succ_eq_append_getElem hk, List.mem_append]
    exact Or.inr (by rw [e]; exact List.mem_singleton.2 rfl)
  · rw [if_neg e, Bool.eq_iff_iff, List.contains_iff_mem, List.contains_iff_mem, List.take_succ_eq_append_getElem hk, List.mem_append, List.mem_singleton]
    exact ⟨Or.inl, fun h => h.elim id fun h => absurd h e⟩
/-- the map of what is forbidden, filled so far -/
def NoW (w : World) (bm bn k : Nat) (l : List (Int × Int)) : Prop := w.heap[bn]? = some (.cells #[.map (some bm)] 144 (0, 0)) ∧ SetK edV Try.prog 143 4 w bm k (fun f => (l.take k).contains f)
/-- the counts in memory: their block and the row of the ways -/
def CntW (w : World) (g br n S bn bd : Nat) (f : Nat → Nat) : Prop :=
  w.heap[g]? = some (.cells #[.int .i64 (n : Int), .func (Fn.func 86) #[] #[.pointer (some ⟨bn, 0, none⟩), .pointer (some ⟨bd, 0, none⟩)], .slice (some ⟨br, 0, none⟩) S S] 116 (0, 0)) ∧ w.rowIs br 23 S (fun s => .int .u64 (f s : Int))
theorem CntW.set {w : World} {g br n S bn bd : Nat} {f f' : Nat → Nat} (h : CntW w g br n S bn bd f) (hne : g ≠ br) (i v : Nat) (hf : ∀ t, t < S → f' t = if t = i then v else f t) : CntW (w.setCell ⟨br, i, none⟩ (.int .u64 (v : Int))) g br n S bn bd f' :=
  ⟨by rw [heap_set_if, if_neg hne]; exact h.1, (h.2.set i _).congr fun t ht => by rw [hf t ht]; split <;> rfl⟩
theorem CntW.congr {w : World} {g br n S bn bd : Nat} {f f' : Nat → Nat} (h : CntW w g br n S bn bd f) (hf : ∀ t, t < S → f t = f' t) : CntW w g br n S bn bd f' := ⟨h.1, h.2.congr fun t ht => by rw [hf t ht]⟩
theorem CntW.below {w w' : World} {g br n S bn bd : Nat} {f : Nat → Nat} (h : CntW w g br n S bn bd f) (hb : Below w.heap.size w w') : CntW w' g br n S bn bd f :=
  ⟨(hb.block g (Array.getElem?_eq_some_iff.1 h.1).1).trans h.1, h.2.of_block (hb.block br h.2.lt)⟩
/-- the counts of a draw in memory -/
def IsCounts (w : World) (M : Nat → Prop) (g : Nat) (d : DrawD) : Prop := ∃ br bn bd, g ≠ br ∧ CntW w g br d.first.length (2 ^ d.first.length) bn bd (Rn (mayD d) d.first.length) ∧ MayW w M bn bd d
theorem edges_in {d : DrawD} (h : checkB d = true) {k : Nat} (hk : k < d.forb.length) : (0 ≤ d.forb[k].1 ∧ d.forb[k].1 < 192) ∧ 0 ≤ d.forb[k].2 ∧ d.forb[k].2 < 192 := by
  unfold checkB at h
  simp only [Bool.and_eq_true, List.all_eq_true, decide_eq_true_eq] at h
  have hf := h.2 d.forb[k] (List.getElem_mem hk)
  unfold hasF at hf
  rw [Bool.and_eq_true, List.contains_iff_mem, List.contains_iff_mem, List.mem_iff_getElem, List.mem_iff_getElem] at hf
  obtain ⟨⟨i, hi, e1⟩, j, hj, e2⟩ := hf
  rw [← e1, ← e2, ← nthI_get hi, ← nthI_get hj]
  exact ⟨pot_range h.1.1 hi, pot_range h.1.2.1 hj⟩
set_option maxHeartbeats 2000000 in
set_option maxRecDepth 8000 in
theorem prepare_any (w : World) (M : Nat → Prop) (v : Value) (d : DrawD) (h : IsDraw w M v d) (hc : checkB d = true) :
    Calls Try.prog 49 #[v] w fun e w' => ∃ g, e = .returned (.pointer (some ⟨g, 0, none⟩)) ∧ IsCounts w' M g d ∧ w.heap.size ≤ g ∧ Below w.heap.size w w' := by
  obtain ⟨v1, v2, v3, rfl, hi1, hi2, hi3⟩ := h
  have H1 := Lib.hid hi1
  have H2 := Lib.hid hi2
  have H3 := Lib.hid hi3
  have HE := Lib.hid (fun k hk => edges_in hc (k := k) hk)
  obtain ⟨A1, c1, rfl, hl1, -, -⟩ := hi1
  obtain ⟨A2, c2, rfl, hl2, -, -⟩ := hi2
  obtain ⟨A3, c3, rfl, hl3, hm3, -⟩ := hi3
  have hlen : d.forb.length ≤ 256 := by
    unfold checkB at hc
    simp only [Bool.and_eq_true, decide_eq_true_eq] at hc
    exact hc.1.2.2.2
  have HL : d.forb.length ≤ c3 := hl3
  have hmm := @run_makeMap Try.prog
  go_enter Try.func49, Try.ntmps49
  go_wp2_with fail
  go_loopw [15] (fun q wr => ∃ j : Nat, j ≤ d.forb.length ∧ q = .int .i64 j ∧ Hid (NoW wr (w.heap.size + 1) (w.heap.size + 1 + 1) j d.forb) ∧ Hid (Below w.heap.size w wr) ∧ wr.heap[w.heap.size]? = some (.cells #[.slice A1 d.first.length c1, .slice A2 d.second.length c2, .slice A3 d.forb.length c3] 73 (0, 0))) (fun q _ => d.forb.length - (intOf q).toNat)
  case atStart =>
    refine ⟨0, Nat.zero_le _, rfl, Lib.hid ?_, Lib.hid ?_, ?_⟩
    · refine ⟨by simp only [heap_alloc_if, World.size_alloc]; rw [if_pos trivial], ?_⟩
      have hm := ((SetK.made (kv := edV) (P := Try.prog) (kt := 143) (et := 4) (w.alloc (.cells #[.slice A1 d.first.length c1, .slice A2 d.second.length c2, .slice A3 d.forb.length c3] 73))).alloc (.cells #[.map (some (w.heap.size + 1))] 144))
      simp only [World.size_alloc] at hm
      exact hm
    · exact (((Below.refl w.heap.size w).alloc (Nat.le_refl _) _).alloc (by simp) _).alloc (by simp; omega) _
    · simp only [heap_alloc_if, World.size_alloc]
      rw [if_neg (by omega), if_neg (by omega), if_pos trivial]
  case round =>
    obtain ⟨j, hj, rfl, HN, HB, hbox⟩ := hrel
    have q0 := cell_of (j := 0) hbox rfl
    have q1 := cell_of (j := 1) hbox rfl
    have q2 := cell_of (j := 2) hbox rfl
    by_cases hlt : j < d.forb.length
    · obtain ⟨b3, o3, rfl, -, f1, f2⟩ := H3.out.at_ HB.out hlt
      have hlt' : (j : Int) < (d.forb.length : Int) := by omega
      have hj0 : (0 : Int) ≤ (j : Int) := by omega
      have hr := HE.out j hlt
      have n0 := cell_of (j := 0) HN.out.1 rfl
      have HS := Lib.hid HN.out.2
      have HU := Lib.hid (upd_take hlt)
      obtain ⟨lk, hlk⟩ := key_edge d.forb[j] (wf64 (by omega) (by omega)) (wf64 (by omega) (by omega))
      have HK := Lib.hid hlk
      have hwn : w.heap.size + 1 + 1 < wr.heap.size := by have := (Array.getElem?_eq_some_iff.1 HN.out.1).1; omega
      clear hlk hr HE
      generalize d.forb[j] = f at f1 f2 HU HK
      go_wp2_with (at_mapUpdate; refine wpList_update_setK (w := _) rfl _ _ _ 144 rfl Try.keyedEdge Try.underlying144 Try.underlying4 rfl (HS.out.alloc _) (by unfold maxLen; omega) edV_inj f lk rfl HK.out true rfl ?_; intro w8 hs8 hg8)
      have hBA := (Below.refl wr.heap.size wr).alloc (Nat.le_refl _) (.cells #[.int .i64 f.1, .int .i64 f.2] 143)
      have hbn : w8.heap[w.heap.size + 1 + 1]? = some (.cells #[.map (some (w.heap.size + 1))] 144 (0, 0)) :=
        (hg8.block (w.heap.size + 1 + 1) (by simp; omega) (by simp)).trans ((hBA.block _ hwn).trans HN.out.1)
      have hbd := (hg8.block w.heap.size (by simp; omega) (by simp)).trans ((hBA.block _ (by omega)).trans hbox)
      have hbb := Lib.hid ((HB.out.alloc HB.out.size (.cells #[.int .i64 f.1, .int .i64 f.2] 143)).grown hg8 (by have := HB.out.size; simp; omega) (fun k e => by cases e; omega))
      have HNN : Hid (NoW w8 (w.heap.size + 1) (w.heap.size + 1 + 1) (j + 1) d.forb) := ⟨hbn, by rw [HU.out] at hs8; exact hs8⟩
      clear hs8 hg8 hBA hbn
      go_roundw
      case rel => exact ⟨j + 1, by omega, by go_num, HNN, hbb, hbd⟩
      case measure => simp [intOf]; omega
    · have hnl : ¬ (j : Int) < (d.forb.length : Int) := by omega
      have n0 := cell_of (j := 0) HN.out.1 rfl
      have hNO : SetK edV Try.prog 143 4 wr (w.heap.size + 1) j (fun f => d.forb.contains f) := by
        have := HN.out.2
        rw [show j = d.forb.length by omega, List.take_length] at this
        exact (show j = d.forb.length by omega) ▸ this
      have HNO := Lib.hid hNO
      have HX := Lib.hid HN.out.1
      have hwn : w.heap.size + 1 + 1 < wr.heap.size := by have := (Array.getElem?_eq_some_iff.1 HN.out.1).1; omega
      have hn16 : 1 ≤ d.first.length ∧ d.first.length ≤ 16 := by
        unfold checkB at hc
        simp only [Bool.and_eq_true] at hc
        exact potB_len hc.1.1
      have HMW : Hid (MayW wr M (w.heap.size + 1 + 1) w.heap.size d) := ⟨w.heap.size + 1, j, _, _, _, HX.out, hbox, IsSl.below H1.out HB.out, IsSl.below H2.out HB.out, hNO⟩
      have HP : Hid (potB d.first = true ∧ potB d.second = true ∧ d.first.length = d.second.length) := by
        unfold checkB at hc
        simp only [Bool.and_eq_true, decide_eq_true_eq] at hc
        exact ⟨hc.1.1, hc.1.2.1, hc.1.2.2.1⟩
      clear hNO hmm HE H1 H2 H3 HN
      generalize hnn : d.first.length = n at *
      have HNN := Lib.hid hnn
      clear hnn
      obtain ⟨F, hF1, hF2, hF, hs1, hs2, hs3, hs4, hFF⟩ := size_facts hn16.1 hn16.2
      have hmk := make_u64 (F + 1) (Nat.succ_le_succ hF2)
      have HF := Lib.hid hF
      have HS1 := Lib.hid hs1
      clear hF hs1
      go_upto_region 9 with fail
      go_cut [7] (fun s7 wx => s7 = .int .i64 (F : Int) ∧ wx = (((wr.alloc (.cells #[.int .i64 (n : Int), .func (Fn.func 86) #[] #[.pointer (some ⟨w.heap.size + 1 + 1, 0, none⟩), .pointer (some ⟨w.heap.size, 0, none⟩)], .slice none 0 0] 116)).alloc (.cells (madeCells #[.int .u64 0] (F + 1)) 23)).setCell ⟨wr.heap.size, 2, none⟩ (.slice (some ⟨wr.heap.size + 1, 0, none⟩) (F + 1) (F + 1))))
      case first =>
        obtain ⟨X, hX⟩ : ∃ X : Int, X = (F : Int) := ⟨_, rfl⟩
        obtain ⟨mk, hmk1, hmk2⟩ : ∃ mk : World → World, (∀ w, (Instr.makeSlice 35 (.int .i64 (wrap64 (X + 1))) (.int .i64 (wrap64 (X + 1)))).run Try.prog w = .ok (.slice (some ⟨w.heap.size, 0, none⟩) (F + 1) (F + 1)) (mk w)) ∧ ∀ w : World, mk w = w.alloc (.cells (madeCells #[.int .u64 0] (F + 1)) 23) :=
          ⟨_, fun w => by rw [hX, hs3]; exact hmk w, fun _ => rfl⟩
        have HM2 := Lib.hid hmk2
        have HX7 := Lib.hid hX
        rw [HS1.out, hs2, ← hX]
        clear hmk hs2 hs3 hs4 hFF hX hF1 hF2 hn16 hmk2 HS1 HF
        generalize F + 1 = S at *
        have hcb : (mk (wr.alloc (.cells #[.int .i64 (n : Int), .func (Fn.func 86) #[] #[.pointer (some ⟨w.heap.size + 1 + 1, 0, none⟩), .pointer (some ⟨w.heap.size, 0, none⟩)], .slice none 0 0] 116))).heap[wr.heap.size]? = some (.cells #[.int .i64 (n : Int), .func (Fn.func 86) #[] #[.pointer (some ⟨w.heap.size + 1 + 1, 0, none⟩), .pointer (some ⟨w.heap.size, 0, none⟩)], .slice none 0 0] 116 (0, 0)) := by
          rw [HM2.out]; simp only [heap_alloc_if, World.size_alloc]; rw [if_neg (by omega), if_pos trivial]
        have hc2 := cell_of (j := 2) hcb rfl
        have hf2 := frz_of (j := 2) hcb
        clear hcb
        go_wp2_with fail
        go_meet
        case rel => exact ⟨HX7.out ▸ rfl, by rw [HM2.out]⟩
      case rest =>
        obtain ⟨rfl, hwx⟩ := hcut
        have hbe : Below w.heap.size w wc := by
          rw [hwx]
          have := HB.out.size
          exact ((HB.out.alloc (by omega) _).alloc (by simp; omega) _).setCell (by simp; omega) _
        have hbr : Below wr.heap.size wr wc := by
          rw [hwx]
          exact (((Below.refl wr.heap.size wr).alloc (Nat.le_refl _) _).alloc (by simp) _).setCell (by simp) _
        have hcb : wc.heap[wr.heap.size]? = some (.cells #[.int .i64 (n : Int), .func (Fn.func 86) #[] #[.pointer (some ⟨w.heap.size + 1 + 1, 0, none⟩), .pointer (some ⟨w.heap.size, 0, none⟩)], .slice (some ⟨wr.heap.size + 1, 0, none⟩) (F + 1) (F + 1)] 116 (0, 0)) := by
          rw [hwx, heap_set_if, if_pos rfl]
          simp only [heap_alloc_if, World.size_alloc]
          rw [if_neg (by omega), if_pos trivial]
          rfl
        have hro : wc.rowIs (wr.heap.size + 1) 23 (F + 1) (fun _ => .int .u64 0) := by
          rw [hwx]
          have := World.rowIs_made (wr.alloc (.cells #[.int .i64 (n : Int), .func (Fn.func 86) #[] #[.pointer (some ⟨w.heap.size + 1 + 1, 0, none⟩), .pointer (some ⟨w.heap.size, 0, none⟩)], .slice none 0 0] 116)) (.int .u64 0) (F + 1) 23
          rw [World.size_alloc] at this
          exact this.setOther (by simp) _
        have HW := Lib.hid hwx
        clear hwx n0 hbox q0 q1 q2 HX HNO HW hmk hl1 hl2 hl3 hm3 HL hlen hnl hlt hj
        have hwn2 : w.heap.size < wr.heap.size := by omega
        obtain ⟨g, hg⟩ : ∃ g : Nat, g = wr.heap.size := ⟨_, rfl⟩
        rw [← hg] at hcb hro hbr hwn hwn2 ⊢
        obtain ⟨w1, hw1⟩ : ∃ w1 : World, w1 = wr := ⟨_, rfl⟩
        rw [← hw1] at hbr HMW hg
        have HG := Lib.hid hg
        clear hg hw1
        have hc0 := cell_of (j := 0) hcb rfl
        have hc1 := cell_of (j := 1) hcb rfl
        have hc2 := cell_of (j := 2) hcb rfl
        have hr0 := hro.cell (i := F) (by omega)
        have hr1 := hro.frozen F
        have HCB := Lib.hid hcb
        have HRO := Lib.hid hro
        have HBE := Lib.hid hbe
        have HBR := Lib.hid hbr
        have hF0 : (0 : Int) ≤ (F : Int) := by omega
        clear hcb hro hbe hbr
        go_wp2_with fail
        go_loopw [8] (fun q wx => ∃ k : Nat, k ≤ F ∧ q = .int .i64 ((k : Int) - 1) ∧ Hid (CntW wx g (g + 1) n (F + 1) (w.heap.size + 1 + 1) w.heap.size (fun t => if k ≤ t then Rn (mayD d) n t else 0)) ∧ Hid (Below w.heap.size w wx) ∧ Hid (Below g w1 wx)) (fun q _ => (intOf q + 1).toNat)
        case atStart =>
          refine ⟨F, Nat.le_refl _, rfl, Lib.hid ?_, Lib.hid ?_, Lib.hid ?_⟩
          · refine CntW.set (f := fun _ => 0) ⟨HCB.out, HRO.out⟩ (by omega) F 1 ?_
            intro t ht
            by_cases e : t = F
            · rw [if_pos e, if_pos (by omega), e, Rn_full HF.out]
            · rw [if_neg e, if_neg (by omega)]
          · exact HBE.out.setCell (by show w.heap.size ≤ g + 1; omega) _
          · exact HBR.out.setCell (by show g ≤ g + 1; omega) _
        case round =>
          obtain ⟨k, hk, rfl, HC, HB2, HB3⟩ := hrel
          clear hc0 hc1 hc2 hr0 hr1 HCB HRO HBE HBR HB hs2 hs3 hs4 hFF HS1 hF0
          have hcc := HC.out.1
          have hc0 := cell_of (j := 0) hcc rfl
          have hc1 := cell_of (j := 1) hcc rfl
          have hc2 := cell_of (j := 2) hcc rfl
          clear hcc
          rcases Nat.eq_zero_or_pos k with hk0 | hk0
          · subst hk0
            go_wp2_with fail
            go_ret
            refine ⟨g, rfl, ⟨g + 1, w.heap.size + 1 + 1, w.heap.size, by omega, ?_, HMW.out.below (HG.out ▸ HB3.out)⟩, by omega, HB2.out⟩
            rw [HNN.out, HF.out]
            exact HC.out.congr fun t _ => if_pos (Nat.zero_le t)
          · obtain ⟨s, rfl⟩ : ∃ s, k = s + 1 := ⟨k - 1, by omega⟩
            have hks : (((s + 1 : Nat) : Int) - 1) = (s : Int) := by omega
            have hs0 : (0 : Int) ≤ (s : Int) := by omega
            have hu : IntKind.u64.wrap (s : Int) = (s : Int) := by rw [IntKind.wrap_u64]; omega
            have hsn : s < 2 ^ n := by rw [HF.out]; omega
            have hon := ones wr s (by omega)
            rw [pcn_16 hsn hn16.2] at hon
            have hil := pcn_lt HF.out (show s < F by omega)
            obtain ⟨i, hi⟩ : ∃ i, i = pcn s n := ⟨_, rfl⟩
            rw [← hi] at hon hil
            have HI := Lib.hid hi
            have CO := Lib.hid hon
            clear hi hon hsn
            simp only [hks]
            go_wp2_with fail
            refine CO.out.mono ?_
            rintro _ W ⟨rfl, rfl⟩
            go_wp2_with fail
            go_loopw [59] (fun q wx => ∃ k : Nat, k ≤ n ∧ q = .int .i64 (k : Int) ∧ Hid (CntW wx g (g + 1) n (F + 1) (w.heap.size + 1 + 1) w.heap.size (fun t => if t = s then sumB (addK (mayD d) n s) k else if s < t then Rn (mayD d) n t else 0)) ∧ Hid (Below w.heap.size w wx) ∧ Hid (Below g w1 wx)) (fun q _ => n - (intOf q).toNat)
            case atStart =>
              refine ⟨0, Nat.zero_le _, rfl, Lib.hid (HC.out.congr fun t _ => ?_), HB2, HB3⟩
              by_cases e : t = s
              · rw [if_pos e, if_neg (by omega)]; rfl
              · rw [if_neg e]
                by_cases e2 : s < t
                · rw [if_pos e2, if_pos (by omega)]
                · rw [if_neg e2, if_neg (by omega)]
            case round =>
              clear hc0 hc1 hc2 HC HB2 HB3
              obtain ⟨k, hkn, rfl, HC, HB2, HB3⟩ := hrel
              have hcc := HC.out.1
              have hc0 := cell_of (j := 0) hcc rfl
              have hc1 := cell_of (j := 1) hcc rfl
              have hc2 := cell_of (j := 2) hcc rfl
              clear hcc
              by_cases hlt2 : k < n
              · have hki : (k : Int) < (n : Int) := by omega
                go_upto_region 18 with fail
                have HMX := HMW.out.below (HG.out ▸ HB3.out)
                have hmay := may_any wr M _ _ d HMX HP.out.1 HP.out.2.1 i k (by rw [HNN.out]; exact hil) (by rw [← HP.out.2.2]; exact hlt2)
                have HMY := Lib.hid hmay
                clear hmay HMX
                go_cut [75] (fun c wx => c = .bool (!s.testBit k && mayD d i k) ∧ Hid (Dr wr wx))
                case first =>
                  by_cases hb : s.testBit k = true
                  · obtain ⟨P, hP, hP0⟩ := band_yes (show s < 65536 by omega) (show k < 16 by omega) hb
                    have hk0 : (0 : Int) ≤ (k : Int) := by omega
                    go_wp2_with fail
                    go_meet
                    case rel => exact ⟨by rw [hb]; rfl, Dr.refl _⟩
                  · have hb : s.testBit k = false := by simpa using hb
                    have hP := band_no (show s < 65536 by omega) (show k < 16 by omega) hb
                    have hk0 : (0 : Int) ≤ (k : Int) := by omega
                    go_wp2_with fail
                    refine HMY.out.mono ?_
                    rintro _ W ⟨rfl, hW⟩
                    go_wp2_with fail
                    go_meet
                    case rel => exact ⟨by rw [hb]; rfl, hW⟩
                case rest =>
                  obtain ⟨rfl, HD⟩ := hcut
                  have HC2 := Lib.hid (HC.out.below HD.out.below)
                  have HB4 := Lib.hid (HB2.out.trans (HD.out.below.mono HB2.out.size))
                  have HB5 := Lib.hid (HB3.out.trans (HD.out.below.mono (by have := lt_heap HC.out.1; omega)))
                  clear hc0 hc1 hc2 HC HB2 HB3 HMY HD
                  have hcc := HC2.out.1
                  have hc0 := cell_of (j := 0) hcc rfl
                  have hc2 : wc.cell? ⟨g, 2, none⟩ = some (.slice (some ⟨g + 1, 0, none⟩) (F + 1) (F + 1)) := cell_of (j := 2) hcc rfl
                  have hrs := HC2.out.2.cell (i := s) (by omega)
                  have hrf := HC2.out.2.frozen s
                  simp only [if_pos trivial] at hrs
                  clear hcc
                  cases hbm : (!s.testBit k && mayD d i k)
                  · go_wp2_with fail
                    go_roundw
                    case rel =>
                      refine ⟨k + 1, by omega, by go_num, Lib.hid (HC2.out.congr fun t _ => ?_), HB4, HB5⟩
                      by_cases e : t = s
                      · rw [if_pos e, if_pos e, sumB]
                        have : addK (mayD d) n s k = 0 := by
                          unfold addK; rw [← HI.out, hbm]; rfl
                        rw [this, Nat.add_zero]
                      · rw [if_neg e, if_neg e]
                    case measure => simp [intOf]; omega
                  · rw [Bool.and_eq_true, Bool.not_eq_true'] at hbm
                    have hbt := hbm.1
                    have hadd : addK (mayD d) n s k = Rn (mayD d) n (wth s k) := addK_yes hbt (by rw [← HI.out]; exact hbm.2)
                    have hor := bor_wth (show s < 65536 by omega) (show k < 16 by omega)
                    have hor2 := bor_wth2 (show s < 65536 by omega) (show k < 16 by omega)
                    have htF : wth s k < F + 1 := HF.out ▸ wth_lt (by rw [HF.out]; omega) hlt2
                    have hst := wth_gt hbt
                    have hrt := HC2.out.2.cell (i := wth s k) htF
                    simp only [if_neg (show ¬ wth s k = s by omega), if_pos hst] at hrt
                    have hsum := part_le (may := mayD d) HF.out (show s < F by omega) hn16.2 (show k + 1 ≤ n by omega)
                    rw [sumB, hadd] at hsum
                    have hadd' : sumB (addK (mayD d) n s) (k + 1) = sumB (addK (mayD d) n s) k + Rn (mayD d) n (wth s k) := by rw [sumB, hadd]
                    have HA := Lib.hid hadd'
                    clear hadd hadd' hbm hbt
                    generalize wth s k = t at *
                    generalize Rn (mayD d) n t = R at *
                    generalize hPS : sumB (addK (mayD d) n s) k = PS at *
                    have hu2 : IntKind.u64.wrap ((PS : Int) + (R : Int)) = ((PS + R : Nat) : Int) := by rw [IntKind.wrap_u64]; omega
                    have HPS := Lib.hid hPS
                    clear hPS hsum
                    have hk0 : (0 : Int) ≤ (k : Int) := by omega
                    have ht0 : (0 : Int) ≤ (t : Int) := by omega
                    have ht1 : (t : Int) < ((F + 1 : Nat) : Int) := by omega
                    have hs1 : (s : Int) < ((F + 1 : Nat) : Int) := by omega
                    have hs1' : (s : Int) < (F : Int) + 1 := by omega
                    have ht1' : (t : Int) < (F : Int) + 1 := by omega
                    go_upto_region 19 with fail
                    go_still_tail 19, (by kernel_rfl)
                    change wpList _ _ _ _ _ wc.drew
                    go_wp2_with fail
                    have HC3 : Hid (CntW (wc.drew.setCell ⟨g + 1, s, none⟩ (.int .u64 ((PS + R : Nat) : Int))) g (g + 1) n (F + 1) (w.heap.size + 1 + 1) w.heap.size (fun t => if t = s then sumB (addK (mayD d) n s) (k + 1) else if s < t then Rn (mayD d) n t else 0)) := by
                      refine (HC2.out.below (Below.refl _ _).drew).set (by omega) s (PS + R) fun t' _ => ?_
                      by_cases e : t' = s
                      · rw [if_pos e, if_pos e, HA.out]
                      · rw [if_neg e, if_neg e, if_neg e]
                    have HB6 := Lib.hid (HB4.out.drew.setCell (p := ⟨g + 1, s, none⟩) (by show w.heap.size ≤ g + 1; omega) (.int .u64 ((PS + R : Nat) : Int)))
                    have HB7 := Lib.hid (HB5.out.drew.setCell (p := ⟨g + 1, s, none⟩) (by show g ≤ g + 1; omega) (.int .u64 ((PS + R : Nat) : Int)))
                    go_roundw
                    case rel => exact ⟨k + 1, by omega, by go_num, HC3, HB6, HB7⟩
                    case measure => simp [intOf]; omega
              · have hki : ¬ (k : Int) < (n : Int) := by omega
                go_wp2_with fail
                have HC4 : Hid (CntW wr g (g + 1) n (F + 1) (w.heap.size + 1 + 1) w.heap.size (fun t => if s ≤ t then Rn (mayD d) n t else 0)) := by
                  refine HC.out.congr fun t _ => ?_
                  by_cases e : t = s
                  · rw [if_pos e, if_pos (by omega), show k = n by omega, e, Rn_step HF.out (show s < F by omega)]
                  · rw [if_neg e]
                    by_cases e2 : s < t
                    · rw [if_pos e2, if_pos (by omega)]
                    · rw [if_neg e2, if_neg (by omega)]
                go_roundw
                case rel => exact ⟨s, by omega, rfl, HC4, HB2, HB3⟩
                case measure => simp [intOf]
end Go.Proofs.Ytgaanndidcdbpaa.Dw
namespace Go.Proofs.Ytgaanndidcdbpaa.Dw
open Go.RowKit
/-- a number and a code -/
def NumE (w : World) (r : Nat × Int) (e : Ending) (w' : World) : Prop := e = .returned (.tuple #[.int .u64 (r.1 : Int), .int .i64 r.2]) ∧ Below w.heap.size w w'
def nD (d : DrawD) : Nat := d.first.length
def countD (d : DrawD) : Nat × Int := if checkB d then (Rn (mayD d) (nD d) 0, 0) else (0, 260)
theorem checkD_yes {d : DrawD} (h : checkB d = true) : checkD d = 0 := by unfold checkD; rw [if_pos h]
theorem checkD_no {d : DrawD} (h : checkB d = false) : checkD d = 260 := by unfold checkD; rw [h]; rfl
theorem checkB_len {d : DrawD} (h : checkB d = true) : 1 ≤ nD d ∧ nD d ≤ 16 ∧ nD d = d.second.length ∧ potB d.first = true ∧ potB d.second = true := by
  unfold checkB at h
  simp only [Bool.and_eq_true, decide_eq_true_eq] at h
  exact ⟨(potB_len h.1.1).1, (potB_len h.1.1).2, h.1.2.2.1, h.1.1, h.1.2.1⟩
theorem count_any (w : World) (M : Nat → Prop) (v : Value) (d : DrawD) (h : IsDraw w M v d) :
    Calls Try.prog 22 #[v] w (NumE w (countD d)) := by
  have CK := fun W (hB : Below w.heap.size w W) => Lib.hid (check_any W M v d (h.below hB))
  have HD := Lib.hid h
  obtain ⟨v1, v2, v3, rfl, -, -, -⟩ := h
  cases hc : checkB d
  · have HC := Lib.hid (show countD d = (0, 260) by unfold countD; rw [hc]; rfl)
    rw [checkD_no hc] at CK
    go_enter Try.func22, Try.ntmps22
    go_wp2_with fail
    refine nameW fun W1 hW1 => ?_
    have hB1 : Below w.heap.size w W1 := by rw [hW1.out]; exact (Below.refl w.heap.size w).alloc (Nat.le_refl _) _
    refine (CK W1 hB1).out.mono ?_
    rintro e W2 ⟨rfl, hB2⟩
    clear hW1
    have HB := Lib.hid (hB1.trans (hB2.mono hB1.size))
    clear hB1 hB2
    go_wp2_with fail
    go_ret2
    exact ⟨by rw [HC.out]; rfl, HB.out⟩
  · have HC := Lib.hid (show countD d = (Rn (mayD d) (nD d) 0, 0) by unfold countD; rw [hc]; rfl)
    rw [checkD_yes hc] at CK
    have CP := fun W (hB : Below w.heap.size w W) => Lib.hid (prepare_any W M _ d (HD.out.below hB) hc)
    go_enter Try.func22, Try.ntmps22
    go_wp2_with fail
    refine nameW fun W1 hW1 => ?_
    have hB1 : Below w.heap.size w W1 := by rw [hW1.out]; exact (Below.refl w.heap.size w).alloc (Nat.le_refl _) _
    have hb1 : W1.heap[w.heap.size]? = some (.cells #[v1, v2, v3] 73 (0, 0)) := by rw [hW1.out, heap_alloc_if, if_pos rfl]
    refine (CK W1 hB1).out.mono ?_
    rintro e W2 ⟨rfl, hB2⟩
    have hb2 := (hB2.block w.heap.size (lt_heap hb1)).trans hb1
    have HB := Lib.hid (hB1.trans (hB2.mono hB1.size))
    have hx0 := cell_of (j := 0) hb2 rfl
    have hx1 := cell_of (j := 1) hb2 rfl
    have hx2 := cell_of (j := 2) hb2 rfl
    clear hB1 hB2 hW1 hb1 hb2
    go_wp2_with fail
    refine (CP W2 HB.out).out.mono ?_
    rintro e W3 ⟨g, rfl, ⟨br, bn, bd, hne, hcn, hmw⟩, hg, hB3⟩
    have HB3 := Lib.hid (HB.out.trans (hB3.mono HB.out.size))
    have hcb := hcn.1
    have hc2 : W3.cell? ⟨g, 2, none⟩ = some (.slice (some ⟨br, 0, none⟩) (2 ^ d.first.length) (2 ^ d.first.length)) := cell_of (j := 2) hcb rfl
    have hr0 := hcn.2.cell (i := 0) (Nat.two_pow_pos _)
    have hp0 : 0 < 2 ^ d.first.length := Nat.two_pow_pos _
    clear hcb hcn hmw hx0 hx1 hx2 hB3
    generalize 2 ^ d.first.length = S at *
    have hp1 : (0 : Int) < (S : Int) := by omega
    go_wp2_with fail
    go_ret2
    exact ⟨by rw [HC.out]; rfl, HB3.out⟩
end Go.Proofs.Ytgaanndidcdbpaa.Dw
