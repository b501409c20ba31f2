/- Plain mathematics of matchings: lists, sizes, covers, neighbours. No program here. -/
import Derived.Test.YtolappaekjdcgaaV4
import Derived.Test.YtolappaekjdcgaaV1
namespace Go.Proofs.Ytolappaekjdcgaa
open Sm
theorem nthI_map {f : Nat → Int} {L i : Nat} (h : i < L) : nthI ((List.range L).map f) i = f i := by
  rw [nthI_get (by simpa using h)]; simp
theorem szI_map (f : Nat → Int) : ∀ {L : Nat}, (∀ v, v < L → -1 ≤ f v) → szI ((List.range L).map f) = sizeM (opt f) L
  | 0, _ => rfl
  | L + 1, h => by
    have ih := szI_map f (L := L) fun v hv => h v (by omega)
    have h1 := h L (by omega)
    unfold szI sizeM at ih ⊢
    rw [List.range_succ, List.map_append, List.countP_append, ih, sumB, List.map_singleton, List.countP_singleton]
    congr 1
    unfold opt
    by_cases e : f L = -1
    · rw [e]; rfl
    · rw [if_neg (by omega : ¬ f L < 0), if_pos (by simpa using e)]; rfl
theorem edB_iff {g : GrD} {v r : Nat} : edB g v r = true ↔ ((v : Int), (r : Int)) ∈ g.edges := by unfold edB; rw [List.contains_iff_mem]
/-- each edge in natural numbers -/
theorem edge_nat {g : GrD} {L R : Nat} (hg : GOk g L R) {e : Int × Int} (h : e ∈ g.edges) : ∃ v r : Nat, e = ((v : Int), (r : Int)) ∧ v < L ∧ r < R ∧ edB g v r = true := by
  obtain ⟨i, hi, rfl⟩ := List.mem_iff_getElem.1 h
  have := hg.rng i hi
  rw [nthE_get hi] at this
  have e2 : g.edges[i] = ((g.edges[i].1.toNat : Int), (g.edges[i].2.toNat : Int)) := by
    rw [Prod.ext_iff]; constructor
    · show g.edges[i].1 = (g.edges[i].1.toNat : Int); omega
    · show g.edges[i].2 = (g.edges[i].2.toNat : Int); omega
  exact ⟨_, _, e2, by omega, by omega, edB_iff.2 (by rw [← e2]; exact h)⟩
theorem edB_lt {g : GrD} {L R : Nat} (hg : GOk g L R) {v r : Nat} (h : edB g v r = true) : v < L ∧ r < R := by
  obtain ⟨v', r', e, h1, h2, -⟩ := edge_nat hg (edB_iff.1 h)
  have e1 : (v : Int) = v' := congrArg Prod.fst e
  have e2 : (r : Int) = r' := congrArg Prod.snd e
  omega
/-- the matching that Max returns is valid -/
theorem max_valid {g : GrD} {L R : Nat} (hg : GOk g L R) (hc : chkB g = true) {lf rf : Nat → Int} (h : MInv (edB g) L R lf rf) : validB g ((List.range L).map lf) = true := by
  refine valid_yes hc (by rw [hg.left]; simp) fun i hi => ?_
  have hiL : i < L := by simpa using hi
  unfold okV
  rw [nthI_map hiL]
  have h0 := h.ll i hiL
  by_cases e : lf i = -1
  · rw [e]; rfl
  · obtain ⟨r, k1, k2, k3, k4⟩ := h.lr i hiL (by omega)
    have h1 : g.edges.contains ((i : Int), lf i) = true := by rw [k1, List.contains_iff_mem]; exact edB_iff.1 k4
    have h2 : (((List.range L).map lf).take i).contains (lf i) = false := by
      rw [Bool.eq_false_iff, Ne, List.contains_iff_mem, List.mem_iff_getElem]
      rintro ⟨j, hj, e2⟩
      rw [List.length_take] at hj
      simp at e2 hj
      obtain ⟨q, j1, j2, j3, -⟩ := h.lr j (by omega) (by omega)
      have : q = r := by omega
      subst this
      omega
    rw [h1, h2]; simp
/-- what a valid list is -/
structure VMat (g : GrD) (L R : Nat) (m : List Int) : Prop where
  len : m.length = L
  mat : Mat (edB g) L R (opt (nthI m))
  size : szI m = sizeM (opt (nthI m)) L
  lo : ∀ v, v < L → -1 ≤ nthI m v
theorem list_map (m : List Int) : m = (List.range m.length).map (nthI m) := by
  refine List.ext_getElem (by simp) fun i h1 h2 => ?_
  rw [List.getElem_map, List.getElem_range, nthI_get h1]
theorem valid_parts {g : GrD} {m : List Int} (h : validB g m = true) : chkB g = true ∧ (m.length : Int) = g.left ∧ ∀ i, i < m.length → okV g m i = true := by
  unfold validB at h
  simp only [Bool.and_eq_true, decide_eq_true_eq, List.all_eq_true, List.mem_range] at h
  exact h
theorem vmat_of {g : GrD} {L R : Nat} (hg : GOk g L R) {m : List Int} (h : validB g m = true) : VMat g L R m := by
  obtain ⟨-, hl, hok⟩ := valid_parts h
  have hlen : m.length = L := by rw [hg.left] at hl; omega
  have key : ∀ v, v < L → nthI m v ≠ -1 → g.edges.contains ((v : Int), nthI m v) = true ∧ (m.take v).contains (nthI m v) = false := fun v hv hne => by
    have := hok v (by omega)
    unfold okV at this
    rw [beq_eq_false_iff_ne.2 hne, Bool.false_or, Bool.and_eq_true, Bool.not_eq_true'] at this
    exact this
  have lo : ∀ v, v < L → -1 ≤ nthI m v := fun v hv => by
    by_cases e : nthI m v = -1
    · omega
    · have := wf_of_edge hg (key v hv e).1
      dsimp only at this
      omega
  refine ⟨hlen, ⟨fun v r hv e => ?_, ?_⟩, ?_, lo⟩
  · rw [opt_some] at e
    have := (key v hv (by omega)).1
    rw [e] at this
    exact ⟨this, (edB_lt hg this).2⟩
  · have wlog : ∀ u v r : Nat, u < v → v < L → opt (nthI m) u = some r → opt (nthI m) v = some r → False := fun u v r huv hv e1 e2 => by
      rw [opt_some] at e1 e2
      have := (key v hv (by omega)).2
      rw [Bool.eq_false_iff, Ne, List.contains_iff_mem] at this
      refine this (List.mem_iff_getElem.2 ⟨u, by rw [List.length_take]; omega, ?_⟩)
      rw [List.getElem_take, ← nthI_get, e1, e2]
    intro u v r hu hv e1 e2
    rcases Nat.lt_trichotomy u v with h1 | h1 | h1
    · exact (wlog u v r h1 hv e1 e2).elim
    · exact h1
    · exact (wlog v u r h1 hu e2 e1).elim
  · conv => lhs; rw [list_map m]
    rw [hlen]
    exact szI_map _ lo
/-- two best matchings are of one size -/
theorem same_size {g : GrD} {L R : Nat} {lf rf lf' rf' : Nat → Int} (h : FInv (edB g) L R lf rf L) (h' : FInv (edB g) L R lf' rf' L) : sizeM (opt lf) L = sizeM (opt lf') L :=
  Nat.le_antisymm (finv_best h' h.inv.mat) (finv_best h h'.inv.mat)
theorem natI_mem {l : List Nat} {x : Nat} : (natI l).contains (x : Int) = true ↔ x ∈ l := by
  rw [List.contains_iff_mem]
  unfold natI
  rw [List.mem_map]
  constructor
  · rintro ⟨y, hy, e⟩
    have : y = x := by omega
    exact this ▸ hy
  · exact fun h => ⟨x, h, rfl⟩
theorem sel_sorted (p : Nat → Bool) (n : Nat) : (selN p n).Pairwise (· < ·) := by
  unfold selN
  exact List.Pairwise.filter _ List.pairwise_lt_range
theorem setB_sel (p : Nat → Bool) (n : Nat) : setB (natI (selN p n)) (n : Int) = true := by
  refine setB_yes fun i hi => ?_
  have hi' : i < (selN p n).length := by rw [natI_len] at hi; exact hi
  have hv : ∀ j (hj : j < (selN p n).length), nthI (natI (selN p n)) j = ((selN p n)[j] : Nat) := fun j hj => by
    rw [nthI_get (by rw [natI_len]; exact hj)]; simp [natI]
  unfold okS vtxB
  rw [hv i hi']
  have h1 := (selN_mem.1 (List.getElem_mem hi')).1
  rw [decide_eq_true (by omega : (0 : Int) ≤ ((selN p n)[i] : Nat)), decide_eq_true (by omega : (((selN p n)[i] : Nat) : Int) < (n : Int))]
  rcases Nat.eq_zero_or_pos i with h0 | h0
  · rw [decide_eq_true h0]; rfl
  · rw [hv (i - 1) (by omega)]
    have := (List.pairwise_iff_getElem.1 (sel_sorted p n)) (i - 1) i (by omega) hi' (by omega)
    rw [decide_eq_true (by omega : (((selN p n)[i - 1] : Nat) : Int) < (((selN p n)[i] : Nat) : Int))]
    simp
/-- the cover that Cover returns is one -/
theorem covers_ok {g : GrD} {L R : Nat} (hg : GOk g L R) {lf rf : Nat → Int} {Sl Sr : Nat → Bool} (hd : Rd (edB g) L R lf rf Sl Sr L) : coversB g (natI (selN (fun v => !Sl v) L)) (natI (selN Sr R)) = true := by
  unfold coversB
  rw [hg.left, hg.right, setB_sel, setB_sel, List.all_eq_true.2]
  · rfl
  · intro e he
    obtain ⟨v, r, rfl, hv, hr, hE⟩ := edge_nat hg he
    unfold cov1
    dsimp only
    cases hs : Sl v
    · rw [natI_mem.2 (selN_mem.2 ⟨hv, by rw [hs]; rfl⟩)]; rfl
    · rw [natI_mem.2 (selN_mem.2 ⟨hr, (hd.full v hv hs r hr hE).1⟩)]; simp
theorem cover_len {g : GrD} {L R : Nat} {lf rf : Nat → Int} {Sl Sr : Nat → Bool} (h : FInv (edB g) L R lf rf L) (hd : Rd (edB g) L R lf rf Sl Sr L) : (natI (selN (fun v => !Sl v) L)).length + (natI (selN Sr R)).length = sizeM (opt lf) L := by
  rw [natI_len, natI_len, selN_size, selN_size]
  exact ((rch_of h hd).size h.inv.mat).symm
/-- neighbours -/
theorem nbrs_mem (S : List Int) (x : Int) : ∀ (l : List (Int × Int)) (out : List Int), x ∈ l.foldl (nbF S) out ↔ x ∈ out ∨ ∃ e, e ∈ l ∧ S.contains e.1 = true ∧ e.2 = x
  | [], out => by simp
  | e :: l, out => by
    rw [List.foldl_cons, nbrs_mem S x l]
    unfold nbF
    constructor
    · rintro (h | ⟨e', h1, h2, h3⟩)
      · split at h
        · next hc =>
          rw [List.mem_append, List.mem_singleton] at h
          rcases h with h | h
          · exact .inl h
          · exact .inr ⟨e, by simp, by rw [Bool.and_eq_true] at hc; exact hc.1, h.symm⟩
        · exact .inl h
      · exact .inr ⟨e', by simp [h1], h2, h3⟩
    · rintro (h | ⟨e', h1, h2, h3⟩)
      · left
        split
        · exact List.mem_append_left _ h
        · exact h
      · rcases List.mem_cons.1 h1 with rfl | h1
        · left
          by_cases hc : out.contains e'.2 = true
          · have hx : x ∈ out := by rw [List.contains_iff_mem, h3] at hc; exact hc
            split
            · exact List.mem_append_left _ hx
            · exact hx
          · rw [if_pos (by rw [h2]; simpa using hc), List.mem_append, List.mem_singleton]
            exact .inr h3.symm
        · exact .inr ⟨e', h1, h2, h3⟩
theorem nbrs_nodup (S : List Int) : ∀ (l : List (Int × Int)) (out : List Int), out.Nodup → (l.foldl (nbF S) out).Nodup
  | [], _, h => h
  | e :: l, out, h => by
    rw [List.foldl_cons]
    refine nbrs_nodup S l _ ?_
    unfold nbF
    split
    · next hc =>
      rw [Bool.and_eq_true, Bool.not_eq_true', Bool.eq_false_iff, Ne, List.contains_iff_mem] at hc
      rw [List.nodup_append]
      exact ⟨h, by simp, fun a ha b hb e => hc.2 (List.contains_iff_mem.2 (by rw [List.mem_singleton] at hb; rw [← hb, ← e]; exact ha))⟩
    · exact h
theorem natI_nodup {l : List Nat} (h : l.Nodup) : (natI l).Nodup := by
  unfold natI List.Nodup
  rw [List.pairwise_map]
  exact List.Pairwise.imp (fun h e => h (by omega)) h
/-- the number of neighbours of a set of left vertices -/
theorem nbrs_size {g : GrD} {L R : Nat} (hg : GOk g L R) (S : List Int) (p : Nat → Bool) (hp : ∀ r, r < R → (p r = true ↔ ∃ v : Nat, S.contains (v : Int) = true ∧ edB g v r = true)) : (nbrs g.edges S).length = sizeB p R := by
  rw [← selN_size, ← natI_len]
  refine List.Perm.length_eq ((List.perm_ext_iff_of_nodup (nbrs_nodup S _ _ List.nodup_nil) (natI_nodup ?_)).2 fun x => ?_)
  · exact List.Pairwise.imp (fun h e => by omega) (sel_sorted p R)
  · rw [nbrs_mem]
    constructor
    · rintro (h | ⟨e, h1, h2, rfl⟩)
      · cases h
      · obtain ⟨v, r, rfl, hv, hr, hE⟩ := edge_nat hg h1
        rw [← List.contains_iff_mem]
        exact natI_mem.2 (selN_mem.2 ⟨hr, (hp r hr).2 ⟨v, h2, hE⟩⟩)
    · intro h
      unfold natI at h
      rw [List.mem_map] at h
      obtain ⟨r, hr, rfl⟩ := h
      rw [selN_mem] at hr
      obtain ⟨v, h1, h2⟩ := (hp r hr.1).1 hr.2
      exact .inr ⟨_, edB_iff.1 h2, h1, rfl⟩
theorem sizeB_not (p : Nat → Bool) (L : Nat) : sizeB (fun v => !p v) L + sizeB p L = L := by
  induction L with
  | zero => rfl
  | succ L ih =>
    unfold sizeB at ih ⊢
    rw [sumB, sumB]
    have e1 : (if (!p L) = true then 1 else 0) + (if p L = true then 1 else 0) = 1 := by cases p L <;> rfl
    dsimp only at ih ⊢
    omega
theorem sizeM_le (m : Nat → Option Nat) (L : Nat) : sizeM m L ≤ L := by
  induction L with
  | zero => exact Nat.le_refl _
  | succ L ih => unfold sizeM at ih ⊢; rw [sumB]; split <;> omega
/-- all matched: no vertex is reached -/
theorem all_matched {g : GrD} {L R : Nat} {lf rf : Nat → Int} {Sl Sr : Nat → Bool} (hd : Rd (edB g) L R lf rf Sl Sr L) : (selN Sl L).length = 0 ↔ sizeM (opt lf) L = L := by
  rw [selN_size]
  constructor
  · intro h
    have hall : ∀ v, v < L → (opt lf v).isSome = true := fun v hv => by
      cases e : opt lf v with
      | some r => rfl
      | none =>
        have h1 := hd.from_ v hv hv (opt_none.1 e)
        have h2 := sumB_term (f := fun v => if Sl v = true then 1 else 0) hv
        unfold sizeB at h
        simp only [h1, if_pos] at h2
        omega
    unfold sizeM
    rw [sumB_congr (g := fun _ => 1) fun v hv => by rw [if_pos (hall v hv)]]
    clear h hall hd
    induction L with
    | zero => rfl
    | succ L ih => rw [sumB, ih]
  · intro h
    have hall := sumB_full (f := fun v => if (opt lf v).isSome = true then 1 else 0) (n := L) (fun c _ => by split <;> omega) h
    have hno : ∀ u, u < L → Sl u = true → False := (hd.min (fun _ => False) (fun _ => False) ⟨fun _ _ _ _ h => h.elim, fun _ _ _ _ h => h.elim⟩ fun v hv h0 => by
      have := hall v hv
      rw [opt_none.2 h0] at this
      simp at this).1
    unfold sizeB
    exact sumB_nil fun v hv => if_neg fun e => hno v hv e
/-- Hall: fewer neighbours than elements -/
theorem hall_less {g : GrD} {L R : Nat} (hg : GOk g L R) {lf rf : Nat → Int} {Sl Sr : Nat → Bool} (h : FInv (edB g) L R lf rf L) (hd : Rd (edB g) L R lf rf Sl Sr L) (hn : sizeM (opt lf) L ≠ L) : (nbrs g.edges (natI (selN Sl L))).length < (natI (selN Sl L)).length := by
  have hdec : ∃ p : Nat → Bool, ∀ r, p r = true ↔ ∃ v : Nat, (natI (selN Sl L)).contains (v : Int) = true ∧ edB g v r = true := ⟨fun r => @decide _ (Classical.propDecidable (∃ v : Nat, (natI (selN Sl L)).contains (v : Int) = true ∧ edB g v r = true)), fun r => by simp⟩
  obtain ⟨p, hp⟩ := hdec
  rw [nbrs_size hg _ p fun r _ => hp r, natI_len, selN_size]
  have h1 : sizeB p R ≤ sizeB Sr R := sumB_le fun r hr => by
    cases e : p r
    · rw [if_neg (by decide)]; exact Nat.zero_le _
    · obtain ⟨v, h1, h2⟩ := (hp r).1 e
      obtain ⟨h3, h4⟩ := selN_mem.1 (natI_mem.1 h1)
      rw [(hd.full v h3 h4 r hr h2).1]; simp
  have h2 := (rch_of h hd).size h.inv.mat
  have h3 := sizeB_not Sl L
  have h4 := sizeM_le (opt lf) L
  omega
theorem some_len {g : GrD} {L R : Nat} {m : List Int} (h : VMat g L R m) : (selN (fun v => nthI m v != -1) L).length = szI m := by
  rw [selN_size, h.size]
  unfold sizeB sizeM
  refine sumB_congr fun v hv => ?_
  have h0 := h.lo v hv
  by_cases e : nthI m v = -1
  · rw [if_neg (by simp [e]), opt_none.2 (by omega)]; rfl
  · have e2 : opt (nthI m) v = some (nthI m v).toNat := opt_some.2 (by omega)
    rw [if_pos (by simpa using e), e2]; rfl
/-- a matched set has enough neighbours -/
theorem some_enough {g : GrD} {L R : Nat} (hg : GOk g L R) {m : List Int} (h : VMat g L R m) : szI m ≤ (nbrs g.edges (natI (selN (fun v => nthI m v != -1) L))).length := by
  have hdec : ∃ p : Nat → Bool, ∀ r, p r = true ↔ ∃ v : Nat, (natI (selN (fun v => nthI m v != -1) L)).contains (v : Int) = true ∧ edB g v r = true := ⟨fun r => @decide _ (Classical.propDecidable (∃ v : Nat, (natI (selN (fun v => nthI m v != -1) L)).contains (v : Int) = true ∧ edB g v r = true)), fun r => by simp⟩
  obtain ⟨p, hp⟩ := hdec
  rw [nbrs_size hg _ p fun r _ => hp r, h.size, size_pairs fun v r hv e => (h.mat.edge v r hv e).2, sumB_swap]
  refine sumB_le fun r hr => ?_
  by_cases e : ∃ v, v < L ∧ opt (nthI m) v = some r
  · obtain ⟨v, hv, e⟩ := e
    have h1 : p r = true := (hp r).2 ⟨v, natI_mem.2 (selN_mem.2 ⟨hv, by have := opt_some.1 e; simp; omega⟩), (h.mat.edge v r hv e).1⟩
    rw [if_pos h1]
    exact sumB_uniq (fun _ _ => by split <;> omega) fun u v hu hv e1 e2 => by
      have k1 : opt (nthI m) u = some r := by
        by_cases e : opt (nthI m) u = some r
        · exact e
        · rw [if_neg e] at e1; cases e1
      have k2 : opt (nthI m) v = some r := by
        by_cases e : opt (nthI m) v = some r
        · exact e
        · rw [if_neg e] at e2; cases e2
      exact h.mat.inj u v r hu hv k1 k2
  · rw [sumB_nil fun v hv => if_neg fun e2 => e ⟨v, hv, e2⟩]
    exact Nat.zero_le _
end Go.Proofs.Ytolappaekjdcgaa
