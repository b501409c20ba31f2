/- The reference's search through all matchings, in plain Lean. No program here. -/
import Derived.Test.YtolappaekjdcgaaL5
namespace Go.Proofs.Ytolappaekjdcgaa
open Sm
/-- the greatest size of a matching of the last f left vertices without the right ones of U -/
def bestD (g : GrD) (L : Nat) : Nat → (Nat → Bool) → Nat
  | 0, _ => 0
  | f + 1, U => g.edges.foldl (fun n e => if (e.1 == ((L - (f + 1) : Nat) : Int)) && !U e.2.toNat then max n (1 + bestD g L f (addS U e.2.toNat)) else n) (bestD g L f U)
/-- one edge more -/
def bestF (g : GrD) (L f : Nat) (U : Nat → Bool) (n : Nat) (e : Int × Int) : Nat := if (e.1 == ((L - (f + 1) : Nat) : Int)) && !U e.2.toNat then max n (1 + bestD g L f (addS U e.2.toNat)) else n
def bestTo (g : GrD) (L f : Nat) (U : Nat → Bool) (k : Nat) : Nat := (g.edges.take k).foldl (bestF g L f U) (bestD g L f U)
theorem bestTo_zero (g : GrD) (L f : Nat) (U : Nat → Bool) : bestTo g L f U 0 = bestD g L f U := rfl
theorem bestTo_succ {g : GrD} {L f k : Nat} {U : Nat → Bool} (hk : k < g.edges.length) : bestTo g L f U (k + 1) = bestF g L f U (bestTo g L f U k) (nthE g.edges k) := by
  unfold bestTo
  rw [List.take_succ_eq_append_getElem hk, nthE_get hk, List.foldl_append]; rfl
theorem bestTo_all (g : GrD) (L f : Nat) (U : Nat → Bool) : bestTo g L f U g.edges.length = bestD g L (f + 1) U := by
  unfold bestTo
  rw [List.take_length]; rfl
theorem foldF_ge (F : Nat → Int × Int → Nat) (h : ∀ n e, n ≤ F n e) : ∀ (l : List (Int × Int)) (n : Nat), n ≤ l.foldl F n
  | [], _ => Nat.le_refl _
  | e :: l, n => Nat.le_trans (h n e) (foldF_ge F h l (F n e))
theorem foldF_at (F : Nat → Int × Int → Nat) (h : ∀ n e, n ≤ F n e) (c : Nat) (e : Int × Int) (hc : ∀ n, c ≤ F n e) : ∀ (l : List (Int × Int)) (n : Nat), e ∈ l → c ≤ l.foldl F n
  | [], _, hm => absurd hm (by simp)
  | e' :: l, n, hm => by
    rcases List.mem_cons.1 hm with rfl | hm
    · exact Nat.le_trans (hc n) (foldF_ge F h l _)
    · exact foldF_at F h c e hc l _ hm
theorem foldF_from (F : Nat → Int × Int → Nat) (P : Nat → Prop) (h : ∀ n e, P n → P (F n e)) : ∀ (l : List (Int × Int)) (n : Nat), P n → P (l.foldl F n)
  | [], _, hn => hn
  | e :: l, n, hn => foldF_from F P h l _ (h n e hn)
theorem foldF_from' (F : Nat → Int × Int → Nat) (P : Nat → Prop) : ∀ (l : List (Int × Int)) (n : Nat), (∀ n e, e ∈ l → P n → P (F n e)) → P n → P (l.foldl F n)
  | [], _, _, hn => hn
  | e :: l, n, h, hn => foldF_from' F P l _ (fun n e' he hp => h n e' (List.mem_cons_of_mem _ he) hp) (h n e (by simp) hn)
theorem bestF_ge (g : GrD) (L f : Nat) (U : Nat → Bool) (n : Nat) (e : Int × Int) : n ≤ bestF g L f U n e := by
  unfold bestF
  split
  · exact Nat.le_max_left _ _
  · exact Nat.le_refl _
theorem bestD_le (g : GrD) (L : Nat) : ∀ (f : Nat) (U : Nat → Bool), bestD g L f U ≤ f
  | 0, _ => Nat.le_refl _
  | f + 1, U => by
    refine foldF_from (bestF g L f U) (· ≤ f + 1) (fun n e hn => ?_) g.edges _ (Nat.le_trans (bestD_le g L f U) (by omega))
    unfold bestF
    split
    · have := bestD_le g L f (addS U e.2.toNat); exact Nat.max_le.2 ⟨hn, by omega⟩
    · exact hn
theorem bestTo_le (g : GrD) (L f : Nat) (U : Nat → Bool) (k : Nat) : bestTo g L f U k ≤ f + 1 := by
  refine foldF_from (bestF g L f U) (· ≤ f + 1) (fun n e hn => ?_) _ _ (Nat.le_trans (bestD_le g L f U) (by omega))
  unfold bestF
  split
  · have := bestD_le g L f (addS U e.2.toNat); exact Nat.max_le.2 ⟨hn, by omega⟩
  · exact hn
/-- a matching of the left vertices from v0 on, without the right ones of U -/
structure PM (g : GrD) (L R v0 : Nat) (U : Nat → Bool) (m : Nat → Option Nat) : Prop where
  mat : Mat (edB g) L R m
  from_ : ∀ v, v < v0 → m v = none
  free : ∀ v r, v < L → m v = some r → U r = false
theorem size_upd {m m' : Nat → Option Nat} {L v0 : Nat} (hv : v0 < L) (h : ∀ v, v ≠ v0 → m' v = m v) (h0 : m v0 = none) (h1 : (m' v0).isSome = true) : sizeM m' L = sizeM m L + 1 := by
  have e1 : sizeM m' L = sumB (fun v => (if (m v).isSome = true then 1 else 0) + (if v0 = v then 1 else 0)) L := by
    refine sumB_congr fun v _ => ?_
    by_cases e : v = v0
    · subst e
      rw [if_pos h1, h0, if_neg (by simp), if_pos rfl]
    · rw [h v e, if_neg (c := v0 = v) (fun h => e h.symm), Nat.add_zero]
  rw [e1, sumB_add, sumB_one hv]
  rfl
theorem best_bound {g : GrD} {L R : Nat} : ∀ (f v0 : Nat) (U : Nat → Bool), v0 + f = L → ∀ m, PM g L R v0 U m → sizeM m L ≤ bestD g L f U
  | 0, v0, U, hv, m, hm => by
    unfold sizeM
    rw [sumB_nil fun v hv' => by rw [hm.from_ v (by omega)]; rfl]
    exact Nat.zero_le _
  | f + 1, v0, U, hv, m, hm => by
    cases e : m v0 with
    | none =>
      have hp : PM g L R (v0 + 1) U m := by
        refine ⟨hm.mat, fun v hv' => ?_, hm.free⟩
        by_cases e2 : v = v0
        · rw [e2]; exact e
        · exact hm.from_ v (by omega)
      have h1 := best_bound f (v0 + 1) U (by omega) m hp
      exact Nat.le_trans h1 (foldF_ge (bestF g L f U) (bestF_ge g L f U) g.edges _)
    | some r =>
      have hL : v0 < L := by omega
      obtain ⟨hE, hr⟩ := hm.mat.edge v0 r hL e
      have hp : PM g L R (v0 + 1) (addS U r) (fun v => if v = v0 then none else m v) := by
        refine ⟨⟨fun v q hv' e2 => ?_, fun u v q hu hv' e1 e2 => ?_⟩, fun v hv' => ?_, fun v q hv' e2 => ?_⟩
        · split at e2
          · cases e2
          · exact hm.mat.edge v q hv' e2
        · split at e1
          · cases e1
          · split at e2
            · cases e2
            · exact hm.mat.inj u v q hu hv' e1 e2
        · by_cases e2 : v = v0
          · rw [if_pos e2]
          · rw [if_neg e2]; exact hm.from_ v (by omega)
        · split at e2
          · cases e2
          · next hne =>
            have hqr : q ≠ r := fun e3 => by
              subst e3
              exact hne (hm.mat.inj v v0 q hv' hL e2 e)
            unfold addS
            rw [if_neg hqr]
            exact hm.free v q hv' e2
      have h1 := best_bound f (v0 + 1) (addS U r) (by omega) _ hp
      have h2 : sizeM m L = sizeM (fun v => if v = v0 then none else m v) L + 1 := size_upd (m := fun v => if v = v0 then none else m v) (m' := m) hL (fun v hne => by rw [if_neg hne]) (by rw [if_pos rfl]) (by rw [e]; rfl)
      have h3 : 1 + bestD g L f (addS U r) ≤ bestD g L (f + 1) U := by
        refine foldF_at (bestF g L f U) (bestF_ge g L f U) _ ((v0 : Int), (r : Int)) (fun n => ?_) g.edges _ (edB_iff.1 hE)
        unfold bestF
        dsimp only
        rw [if_pos (by
          have e1 : ((v0 : Int) == ((L - (f + 1) : Nat) : Int)) = true := by rw [beq_iff_eq]; omega
          have e2 : U (r : Int).toNat = false := hm.free v0 r hL e
          rw [e1, e2]; rfl)]
        exact Nat.le_max_right _ _
      omega
theorem best_real {g : GrD} {L R : Nat} (hg : GOk g L R) : ∀ (f v0 : Nat) (U : Nat → Bool), v0 + f = L → ∃ m, PM g L R v0 U m ∧ sizeM m L = bestD g L f U
  | 0, v0, U, _ => ⟨fun _ => none, ⟨⟨fun _ _ _ e => (nomatch e), fun _ _ _ _ _ e => (nomatch e)⟩, fun _ _ => rfl, fun _ _ _ e => (nomatch e)⟩, sumB_nil fun _ _ => rfl⟩
  | f + 1, v0, U, hv => by
    refine foldF_from' (bestF g L f U) (fun c => ∃ m, PM g L R v0 U m ∧ sizeM m L = c) g.edges _ (fun n e he hn => ?_) ?_
    · unfold bestF
      split
      · next hc =>
        rcases Nat.le_total (1 + bestD g L f (addS U e.2.toNat)) n with h1 | h1
        · rw [Nat.max_eq_left h1]; exact hn
        · rw [Nat.max_eq_right h1]
          obtain ⟨v, r, rfl, hvL, hr, hE⟩ := edge_nat hg he
          rw [Bool.and_eq_true, beq_iff_eq, Bool.not_eq_true'] at hc
          obtain ⟨c1, c2⟩ := hc
          have c2 : U r = false := c2
          have hv0 : v = v0 := by dsimp only at c1; omega
          subst hv0
          obtain ⟨m, hm, hs⟩ := best_real hg f (v + 1) (addS U r) (by omega)
          refine ⟨fun u => if u = v then some r else m u, ⟨⟨fun u q hu e2 => ?_, fun u u' q hu hu' e1 e2 => ?_⟩, fun u hu => ?_, fun u q hu e2 => ?_⟩, ?_⟩
          · split at e2
            · next h => cases e2; rw [h]; exact ⟨hE, hr⟩
            · exact hm.mat.edge u q hu e2
          · have key : ∀ u, u < L → m u = some r → False := fun u hu e => by
              have := hm.free u r hu e
              rw [addS_same] at this
              cases this
            split at e1
            · next h1 =>
              split at e2
              · next h2 => rw [h1, h2]
              · cases e1; exact (key u' hu' e2).elim
            · split at e2
              · cases e2; exact (key u hu e1).elim
              · exact hm.mat.inj u u' q hu hu' e1 e2
          · rw [if_neg (by omega)]; exact hm.from_ u (by omega)
          · split at e2
            · cases e2; exact c2
            · have := hm.free u q hu e2
              exact (addS_no this).2
          · rw [size_upd (m := m) hvL (fun u hne => by rw [if_neg hne]) (hm.from_ v (by omega)) (by rw [if_pos rfl]; rfl), hs]
            show bestD g L f (addS U r) + 1 = 1 + bestD g L f (addS U r)
            omega
      · exact hn
    · obtain ⟨m, hm, hs⟩ := best_real hg f (v0 + 1) U (by omega)
      exact ⟨m, ⟨hm.mat, fun v hv' => hm.from_ v (by omega), hm.free⟩, hs⟩
/-- Max finds what the search finds -/
theorem best_max {g : GrD} {L R : Nat} (hg : GOk g L R) {lf rf : Nat → Int} (h : FInv (edB g) L R lf rf L) : sizeM (opt lf) L = bestD g L L (fun _ => false) := by
  refine Nat.le_antisymm (best_bound L 0 _ (by omega) _ ⟨h.inv.mat, fun _ h => absurd h (by omega), fun _ _ _ _ => rfl⟩) ?_
  obtain ⟨m, hm, hs⟩ := best_real hg L 0 (fun _ => false) (by omega)
  rw [← hs]
  exact finv_best h hm.mat
end Go.Proofs.Ytolappaekjdcgaa
