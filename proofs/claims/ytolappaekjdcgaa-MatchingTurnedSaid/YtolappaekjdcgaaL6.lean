/- The examples of the chapter. No program here. -/
import Derived.Test.YtolappaekjdcgaaL5
namespace Go.Proofs.Ytolappaekjdcgaa
open Sm
def gA : GrD := ⟨2, 1, [(0, 0), (1, 0)]⟩
def gB : GrD := ⟨0, 0, []⟩
def gC : GrD := ⟨1, 0, []⟩
def gD : GrD := ⟨1, 1, [(0, 0), (0, 0)]⟩
def gE : GrD := ⟨1, 1, []⟩
theorem chkA : chkB gA = true := by decide
theorem chkB' : chkB gB = true := by decide
theorem chkC : chkB gC = true := by decide
theorem chkD : chkB gD = false := by decide
theorem chkE : chkB gE = true := by decide
theorem valA : validB gA [-1, -1] = true := by decide
theorem valE : validB gE [0] = false := by decide
theorem gok_nat {g : GrD} {L R : Nat} (h : chkB g = true) (hl : g.left = L) (hr : g.right = R) : GOk g L R := by
  obtain ⟨L', R', h'⟩ := gok_of h
  have e1 := h'.left
  have e2 := h'.right
  rw [hl] at e1
  rw [hr] at e2
  have : L = L' := by omega
  subst this
  have : R = R' := by omega
  subst this
  exact h'
theorem gokA : GOk gA 2 1 := gok_nat chkA rfl rfl
theorem gokB : GOk gB 0 0 := gok_nat chkB' rfl rfl
theorem gokC : GOk gC 1 0 := gok_nat chkC rfl rfl
theorem edA {v r : Nat} (hv : v < 2) (hr : r < 1) : edB gA v r = true := by
  obtain rfl : r = 0 := by omega
  match v, hv with
  | 0, _ => decide
  | 1, _ => decide
theorem sizeA {lf rf : Nat → Int} (h : FInv (edB gA) 2 1 lf rf 2) : sizeM (opt lf) 2 = 1 := by
  have h1 : sizeM (opt lf) 2 ≤ 1 := cover_bound (A := fun _ => false) (B := fun _ => true) h.inv.mat fun _ _ _ _ _ => .inr rfl
  have hm : Mat (edB gA) 2 1 (fun v => if v = 0 then some 0 else none) := by
    refine ⟨fun v r hv e => ?_, fun u v r _ _ e1 e2 => ?_⟩
    · split at e
      · cases e; exact ⟨edA hv (by omega), by omega⟩
      · cases e
    · split at e1
      · split at e2
        · omega
        · cases e2
      · cases e1
  have h2 : 1 ≤ sizeM (opt lf) 2 := finv_best h hm
  omega
theorem lensA {lf rf : Nat → Int} {Sl Sr : Nat → Bool} (h : FInv (edB gA) 2 1 lf rf 2) (hd : Rd (edB gA) 2 1 lf rf Sl Sr 2) : (selN Sl 2).length = 2 ∧ (selN (fun v => !Sl v) 2).length = 0 ∧ (selN Sr 1).length = 1 := by
  have h1 := sizeA h
  have h2 := cover_len h hd
  rw [natI_len, natI_len, h1] at h2
  have h3 : (selN Sl 2).length ≠ 0 := fun e => by have := (all_matched hd).1 e; omega
  have h4 : Sr 0 = true := by
    have : selN Sl 2 ≠ [] := fun e => h3 (by rw [e]; rfl)
    obtain ⟨u, hu⟩ := List.exists_mem_of_ne_nil _ this
    rw [selN_mem] at hu
    exact (hd.full u hu.1 hu.2 0 (by omega) (edA hu.1 (by omega))).1
  have h5 : (selN Sr 1).length = 1 := by
    rw [selN_size]
    show 0 + (if Sr 0 = true then 1 else 0) = 1
    rw [h4]; rfl
  have h6 := sizeB_not Sl 2
  rw [← selN_size, ← selN_size] at h6
  omega
theorem lenC {lf rf : Nat → Int} {Sl Sr : Nat → Bool} (h : FInv (edB gC) 1 0 lf rf 1) (hd : Rd (edB gC) 1 0 lf rf Sl Sr 1) : (selN Sl 1).length = 1 := by
  have h1 : lf 0 < 0 := by
    rcases Int.lt_or_le (lf 0) 0 with h1 | h1
    · exact h1
    · obtain ⟨r, -, h2, -⟩ := h.inv.lr 0 (by omega) h1
      omega
  have h2 := hd.from_ 0 (by omega) (by omega) h1
  rw [selN_size]
  show 0 + (if Sl 0 = true then 1 else 0) = 1
  rw [h2]; rfl
end Go.Proofs.Ytolappaekjdcgaa
