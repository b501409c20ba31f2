import Derived.Test.YtbkgkgigcohbpaaSum
import Derived.Test.YtbkgkgigcohbpaaInts
/- Plain mathematics of matchings: no matching is greater than a cover. No program here. -/
namespace Go.Proofs.Ytbkgkgigcohbpaa
open Sm
/-- a matching: for each left vertex its right one -/
structure Mat (E : Nat → Nat → Bool) (L R : Nat) (m : Nat → Option Nat) : Prop where
  edge : ∀ v r, v < L → m v = some r → E v r = true ∧ r < R
  inj : ∀ u v r, u < L → v < L → m u = some r → m v = some r → u = v
def sizeM (m : Nat → Option Nat) (L : Nat) : Nat := sumB (fun v => if (m v).isSome then 1 else 0) L
def sizeB (A : Nat → Bool) (L : Nat) : Nat := sumB (fun v => if A v then 1 else 0) L
/-- a cover: each edge has an end in it -/
def Cov (E : Nat → Nat → Bool) (L R : Nat) (A B : Nat → Bool) : Prop := ∀ v r, v < L → r < R → E v r = true → A v = true ∨ B r = true
theorem cover_bound {E : Nat → Nat → Bool} {L R : Nat} {m : Nat → Option Nat} {A B : Nat → Bool} (hm : Mat E L R m) (hc : Cov E L R A B) : sizeM m L ≤ sizeB A L + sizeB B R := by
  have h1 : sizeM m L ≤ sumB (fun v => (if A v then 1 else 0) + sumB (fun r => if m v = some r ∧ B r = true then 1 else 0) R) L := by
    refine sumB_le fun v hv => ?_
    cases e : m v with
    | none => simp
    | some r =>
      obtain ⟨he, hr⟩ := hm.edge v r hv e
      rcases hc v r hv hr he with ha | hb
      · rw [ha]; simp
      · have := sumB_term (f := fun q => if some r = some q ∧ B q = true then 1 else 0) hr
        simp only [hb, and_self, if_pos] at this
        simp only [Option.isSome_some, if_pos]
        omega
  have h2 : sumB (fun v => sumB (fun r => if m v = some r ∧ B r = true then 1 else 0) R) L ≤ sizeB B R := by
    rw [sumB_swap]
    refine sumB_le fun r _ => ?_
    cases hb : B r
    · rw [sumB_nil fun v _ => if_neg (by simp)]
      exact Nat.zero_le _
    · rw [if_pos rfl]
      refine sumB_uniq (fun v _ => by split <;> omega) fun u v hu hv e1 e2 => ?_
      have k1 : m u = some r := by
        by_cases e : m u = some r
        · exact e
        · rw [if_neg (fun hh => e hh.1)] at e1; cases e1
      have k2 : m v = some r := by
        by_cases e : m v = some r
        · exact e
        · rw [if_neg (fun hh => e hh.1)] at e2; cases e2
      exact hm.inj u v r hu hv k1 k2
  have h3 := sumB_add (fun v => if A v then 1 else 0) (fun v => sumB (fun r => if m v = some r ∧ B r = true then 1 else 0) R) L
  unfold sizeB at h2 ⊢
  omega
end Go.Proofs.Ytbkgkgigcohbpaa
/- Plain mathematics of matchings: where all that unmatched vertices reach is matched, the cover is as great as the matching. No program here. -/
namespace Go.Proofs.Ytbkgkgigcohbpaa
open Sm
/-- what alternating paths reach: left vertices Lr, right ones Sr -/
structure Rch (E : Nat → Nat → Bool) (L R : Nat) (m p : Nat → Option Nat) (Lr Sr : Nat → Bool) : Prop where
  inv : ∀ v r, v < L → r < R → (m v = some r ↔ p r = some v)
  left : ∀ v r, r < R → p r = some v → v < L
  free : ∀ v, v < L → m v = none → Lr v = true
  step : ∀ v r, v < L → r < R → Lr v = true → E v r = true → Sr r = true
  back : ∀ r, r < R → Sr r = true → ∃ v, p r = some v ∧ Lr v = true
theorem Rch.cov {E : Nat → Nat → Bool} {L R : Nat} {m p : Nat → Option Nat} {Lr Sr : Nat → Bool} (h : Rch E L R m p Lr Sr) : Cov E L R (fun v => !Lr v) Sr := fun v r hv hr he => by
  cases hl : Lr v
  · exact .inl (by show (!Lr v) = true; rw [hl]; rfl)
  · exact .inr (h.step v r hv hr hl he)
theorem Rch.size {E : Nat → Nat → Bool} {L R : Nat} {m p : Nat → Option Nat} {Lr Sr : Nat → Bool} (h : Rch E L R m p Lr Sr) (hm : Mat E L R m) : sizeM m L = sizeB (fun v => !Lr v) L + sizeB Sr R := by
  have e1 : sizeM m L = sumB (fun v => (if (!Lr v) = true then 1 else 0) + sumB (fun r => if m v = some r ∧ Sr r = true then 1 else 0) R) L := by
    refine sumB_congr fun v hv => ?_
    cases hl : Lr v
    · have hs : (m v).isSome = true := by
        cases e : m v with
        | none => rw [h.free v hv e] at hl; cases hl
        | some r => rfl
      rw [if_pos hs, if_pos (by rfl), sumB_nil fun r hr => if_neg ?_]
      rintro ⟨k1, k2⟩
      obtain ⟨v', k3, k4⟩ := h.back r hr k2
      rw [(h.inv v r hv hr).1 k1] at k3
      cases k3
      rw [hl] at k4
      cases k4
    · rw [if_neg (show ¬ (!true) = true by decide), Nat.zero_add]
      cases e : m v with
      | none => rw [if_neg (by simp), sumB_nil fun r _ => if_neg (by simp)]
      | some r =>
        obtain ⟨he, hr⟩ := hm.edge v r hv e
        have hs := h.step v r hv hr hl he
        rw [if_pos (by rfl)]
        refine ((sumB_congr fun q _ => ?_).trans (sumB_one hr)).symm
        by_cases k : r = q
        · rw [if_pos k, ← k, if_pos ⟨rfl, hs⟩]
        · rw [if_neg k, if_neg (fun hh => k (Option.some.inj hh.1))]
  have e2 : sumB (fun v => sumB (fun r => if m v = some r ∧ Sr r = true then 1 else 0) R) L = sizeB Sr R := by
    rw [sumB_swap]
    refine sumB_congr fun r hr => ?_
    cases hs : Sr r
    · exact sumB_nil fun v _ => if_neg (by simp)
    · obtain ⟨v, k1, -⟩ := h.back r hr hs
      have hv := h.left v r hr k1
      rw [if_pos rfl]
      refine (sumB_congr fun u hu => ?_).trans (sumB_one hv)
      by_cases k : v = u
      · rw [if_pos k, ← k, if_pos ⟨(h.inv v r hv hr).2 k1, rfl⟩]
      · rw [if_neg k, if_neg (fun hh => k ?_)]
        have := (h.inv u r hu hr).1 hh.1
        rw [k1] at this
        exact Option.some.inj this
  rw [e1, sumB_add, e2]
  rfl
/-- so no matching is greater -/
theorem Rch.best {E : Nat → Nat → Bool} {L R : Nat} {m p : Nat → Option Nat} {Lr Sr : Nat → Bool} (h : Rch E L R m p Lr Sr) (hm : Mat E L R m) {m' : Nat → Option Nat} (hm' : Mat E L R m') : sizeM m' L ≤ sizeM m L := by
  rw [h.size hm]
  exact cover_bound hm' h.cov
end Go.Proofs.Ytbkgkgigcohbpaa
/- Plain mathematics of matchings: turned around, a matching has the same size; one edge less. No program here. -/
namespace Go.Proofs.Ytbkgkgigcohbpaa
open Sm
theorem size_pairs {L R : Nat} {m : Nat → Option Nat} (h : ∀ v r, v < L → m v = some r → r < R) : sizeM m L = sumB (fun v => sumB (fun r => if m v = some r then 1 else 0) R) L := by
  refine sumB_congr fun v hv => ?_
  cases e : m v with
  | none => rw [if_neg (by simp), sumB_nil fun r _ => if_neg (by simp)]
  | some r =>
    rw [if_pos (by rfl)]
    refine ((sumB_congr fun q _ => ?_).trans (sumB_one (h v r hv e))).symm
    by_cases k : r = q
    · rw [if_pos k, k, if_pos rfl]
    · rw [if_neg k, if_neg (fun hh => k (Option.some.inj hh))]
/-- the same matching seen from the right -/
theorem size_turned {L R : Nat} {m p : Nat → Option Nat} (hm : ∀ v r, v < L → m v = some r → r < R) (hp : ∀ r v, r < R → p r = some v → v < L) (hi : ∀ v r, v < L → r < R → (m v = some r ↔ p r = some v)) : sizeM p R = sizeM m L := by
  rw [size_pairs hm, size_pairs hp, sumB_swap]
  refine sumB_congr fun v hv => sumB_congr fun r hr => ?_
  by_cases k : m v = some r
  · rw [if_pos k, if_pos ((hi v r hv hr).1 k)]
  · rw [if_neg k, if_neg (fun hh => k ((hi v r hv hr).2 hh))]
theorem Mat.mono {E E' : Nat → Nat → Bool} {L R : Nat} {m : Nat → Option Nat} (h : Mat E L R m) (hE : ∀ v r, v < L → r < R → E v r = true → E' v r = true) : Mat E' L R m :=
  ⟨fun v r hv e => ⟨hE v r hv (h.edge v r hv e).2 (h.edge v r hv e).1, (h.edge v r hv e).2⟩, h.inj⟩
/-- without the edge (a, b): the matching without a, if it is matched to b -/
theorem Mat.drop {E E' : Nat → Nat → Bool} {L R a b : Nat} {m : Nat → Option Nat} (h : Mat E L R m) (hE : ∀ v r, v < L → r < R → E v r = true → (v = a ∧ r = b) ∨ E' v r = true) : ∃ m', Mat E' L R m' ∧ sizeM m L ≤ sizeM m' L + 1 := by
  refine ⟨fun v => if v = a ∧ m v = some b then none else m v, ⟨fun v r hv e => ?_, fun u v r hu hv e1 e2 => ?_⟩, ?_⟩
  · split at e
    · cases e
    · next hn =>
      obtain ⟨k1, k2⟩ := h.edge v r hv e
      rcases hE v r hv k2 k1 with ⟨rfl, rfl⟩ | k3
      · exact absurd ⟨rfl, e⟩ hn
      · exact ⟨k3, k2⟩
  · split at e1
    · cases e1
    · split at e2
      · cases e2
      · exact h.inj u v r hu hv e1 e2
  · have h1 : sizeM m L ≤ sumB (fun v => (if (if v = a ∧ m v = some b then none else m v).isSome then 1 else 0) + (if a = v then 1 else 0)) L := by
      refine sumB_le fun v _ => ?_
      by_cases k : v = a ∧ m v = some b
      · rw [if_pos k, if_pos k.1.symm]
        split <;> omega
      · rw [if_neg k]; omega
    rw [sumB_add] at h1
    have h2 : sumB (fun v => if a = v then 1 else 0) L ≤ 1 := by
      rcases Nat.lt_or_ge a L with k | k
      · rw [sumB_one k]; exact Nat.le_refl _
      · rw [sumB_nil fun v hv => if_neg (by omega)]; omega
    unfold sizeM at h1 ⊢
    dsimp only at h1 ⊢
    omega
end Go.Proofs.Ytbkgkgigcohbpaa
/- The specification of layer 25 in plain Lean: graphs, their order, which are valid, the edges of a vertex. No program here. -/
namespace Go.Proofs.Ytbkgkgigcohbpaa
structure GrD where
  left : Int
  right : Int
  edges : List (Int × Int)
def ordE (a b : Int × Int) : Int := if a.1 < b.1 then -1 else if b.1 < a.1 then 1 else if a.2 < b.2 then -1 else if b.2 < a.2 then 1 else 0
def ltE (a b : Int × Int) : Prop := a.1 < b.1 ∨ a.1 = b.1 ∧ a.2 < b.2
theorem ordE_lt {a b : Int × Int} : ordE a b < 0 ↔ ltE a b := by
  unfold ordE ltE
  repeat' split
  all_goals omega
theorem ordE_eq {a b : Int × Int} : ordE a b = 0 ↔ a = b := by
  rw [Prod.ext_iff]
  unfold ordE
  repeat' split
  all_goals omega
theorem ordE_range (a b : Int × Int) : -1 ≤ ordE a b ∧ ordE a b ≤ 1 := by
  unfold ordE
  repeat' split
  all_goals omega
theorem ltE_trans {a b c : Int × Int} (h : ltE a b) (k : ltE b c) : ltE a c := by unfold ltE at *; omega
theorem ltE_irrefl {a : Int × Int} (h : ltE a a) : False := by unfold ltE at h; omega
theorem ltE_tri (a b : Int × Int) : ltE a b ∨ a = b ∨ ltE b a := by
  rw [Prod.ext_iff]; unfold ltE; omega
/-- element j of pairs -/
def nthE (l : List (Int × Int)) (j : Nat) : Int × Int := l.getD j (0, 0)
theorem nthE_get {l : List (Int × Int)} {q : Nat} (h : q < l.length) : nthE l q = l[q] := by unfold nthE; rw [List.getD_eq_getElem?_getD, List.getElem?_eq_getElem h]; rfl
/-- strictly ascending -/
def SrtE (l : List (Int × Int)) : Prop := ∀ i j, i < j → j < l.length → ltE (nthE l i) (nthE l j)
/-- the place of t: what is before is less, what is behind is not -/
structure IsLow (l : List (Int × Int)) (t : Int × Int) (i : Nat) : Prop where
  le : i ≤ l.length
  lo : ∀ q, q < i → ltE (nthE l q) t
  hi : ∀ q, i ≤ q → q < l.length → ¬ ltE (nthE l q) t
/-- a step of the search -/
structure Srch (l : List (Int × Int)) (t : Int × Int) (i j : Nat) : Prop where
  le : i ≤ j
  len : j ≤ l.length
  lo : ∀ q, q < i → ltE (nthE l q) t
  hi : ∀ q, j ≤ q → q < l.length → ¬ ltE (nthE l q) t
theorem Srch.start (l : List (Int × Int)) (t : Int × Int) : Srch l t 0 l.length := ⟨by omega, by omega, fun _ h => by omega, fun _ h h' => by omega⟩
theorem Srch.up {l : List (Int × Int)} {t : Int × Int} {i j h : Nat} (s : Srch l t i j) (hs : SrtE l) (hj : h < j) (hh : ordE (nthE l h) t < 0) : Srch l t (h + 1) j :=
  ⟨hj, s.len, fun q hq => by
    rcases Nat.lt_or_ge q h with k | k
    · exact ltE_trans (hs q h k (by have := s.len; omega)) (ordE_lt.1 hh)
    · rw [show q = h by omega]; exact ordE_lt.1 hh, s.hi⟩
theorem Srch.down {l : List (Int × Int)} {t : Int × Int} {i j h : Nat} (s : Srch l t i j) (hs : SrtE l) (hi : i ≤ h) (hj : h < j) (hh : ¬ ordE (nthE l h) t < 0) : Srch l t i h :=
  ⟨hi, by have := s.len; omega, s.lo, fun q hq hl hlt => by
    rcases Nat.lt_or_ge h q with k | k
    · exact hh (ordE_lt.2 (ltE_trans (hs h q k hl) hlt))
    · rw [show q = h by omega] at hlt; exact hh (ordE_lt.2 hlt)⟩
theorem Srch.low {l : List (Int × Int)} {t : Int × Int} {i : Nat} (s : Srch l t i i) : IsLow l t i := ⟨s.len, s.lo, s.hi⟩
theorem IsLow.yes {l : List (Int × Int)} {t : Int × Int} {i : Nat} (hi : i < l.length) (e : ordE (nthE l i) t = 0) : l.contains t = true := by
  rw [List.contains_iff_mem, ← ordE_eq.1 e, nthE_get hi]
  exact List.getElem_mem hi
theorem IsLow.no {l : List (Int × Int)} {t : Int × Int} {i : Nat} (s : IsLow l t i) (hs : SrtE l) (e : i < l.length → ordE (nthE l i) t ≠ 0) : l.contains t = false := by
  rw [Bool.eq_false_iff]
  intro h
  rw [List.contains_iff_mem, List.mem_iff_getElem] at h
  obtain ⟨q, hq, rfl⟩ := h
  rw [← nthE_get hq] at s e
  rcases Nat.lt_or_ge q i with k | k
  · exact ltE_irrefl (s.lo q k)
  · rcases Nat.lt_or_ge i q with k2 | k2
    · exact s.hi i (Nat.le_refl _) (by omega) (hs i q k2 hq)
    · obtain rfl : q = i := by omega
      exact e hq (ordE_eq.2 rfl)
/-- an edge that is right at place i -/
def okE (g : GrD) (i : Nat) : Bool := decide (0 ≤ (nthE g.edges i).1) && (decide ((nthE g.edges i).1 < g.left) && (decide (0 ≤ (nthE g.edges i).2) && (decide ((nthE g.edges i).2 < g.right) && (decide (i = 0) || decide (ordE (nthE g.edges (i - 1)) (nthE g.edges i) < 0)))))
def sizeOk (g : GrD) : Bool := decide (0 ≤ g.left) && (decide (g.left ≤ 512) && (decide (0 ≤ g.right) && (decide (g.right ≤ 512) && decide (g.edges.length ≤ 4096))))
def chkB (g : GrD) : Bool := sizeOk g && (List.range g.edges.length).all (okE g)
def chkG (g : GrD) : Int := if chkB g then 0 else 250
theorem chkG_yes {g : GrD} (h : chkB g = true) : chkG g = 0 := by unfold chkG; rw [h]; rfl
theorem chkG_no {g : GrD} (h : chkB g = false) : chkG g = 250 := by unfold chkG; rw [h]; rfl
/-- the first k edges are right -/
def okTo (g : GrD) (k : Nat) : Prop := ∀ j, j < k → okE g j = true
theorem okTo_zero {g : GrD} : okTo g 0 := fun _ h => absurd h (by omega)
theorem okTo_succ {g : GrD} {k : Nat} (h : okTo g k) (hk : okE g k = true) : okTo g (k + 1) := fun j hj => by
  rcases Nat.lt_or_ge j k with h1 | h1
  · exact h j h1
  · rw [show j = k by omega]; exact hk
theorem chk_all {g : GrD} (hs : sizeOk g = true) (h : okTo g g.edges.length) : chkB g = true := by
  unfold chkB
  rw [hs, List.all_eq_true.2 (fun j hj => h j (List.mem_range.1 hj))]; rfl
theorem chk_no {g : GrD} {k : Nat} (hk : k < g.edges.length) (h : okE g k = false) : chkB g = false := by
  unfold chkB
  rw [List.all_eq_false.2 ⟨k, List.mem_range.2 hk, by rw [h]; decide⟩, Bool.and_false]
theorem chk_size {g : GrD} (h : sizeOk g = false) : chkB g = false := by unfold chkB; rw [h]; rfl
/-- what a valid graph is -/
structure GOk (g : GrD) (L R : Nat) : Prop where
  left : g.left = L
  right : g.right = R
  l512 : L ≤ 512
  r512 : R ≤ 512
  len : g.edges.length ≤ 4096
  rng : ∀ i, i < g.edges.length → 0 ≤ (nthE g.edges i).1 ∧ (nthE g.edges i).1 < L ∧ 0 ≤ (nthE g.edges i).2 ∧ (nthE g.edges i).2 < R
  srt : SrtE g.edges
theorem gok_of {g : GrD} (h : chkB g = true) : ∃ L R, GOk g L R := by
  unfold chkB sizeOk at h
  simp only [Bool.and_eq_true, decide_eq_true_eq, List.all_eq_true, List.mem_range] at h
  obtain ⟨⟨a, b, c, d, e⟩, h2⟩ := h
  have h3 : ∀ i, i < g.edges.length → (0 ≤ (nthE g.edges i).1 ∧ (nthE g.edges i).1 < g.left ∧ 0 ≤ (nthE g.edges i).2 ∧ (nthE g.edges i).2 < g.right) ∧ (i = 0 ∨ ltE (nthE g.edges (i - 1)) (nthE g.edges i)) := fun i hi => by
    have := h2 i hi
    unfold okE at this
    simp only [Bool.and_eq_true, Bool.or_eq_true, decide_eq_true_eq] at this
    exact ⟨⟨this.1, this.2.1, this.2.2.1, this.2.2.2.1⟩, this.2.2.2.2.imp id ordE_lt.1⟩
  refine ⟨g.left.toNat, g.right.toNat, by omega, by omega, by omega, by omega, e, fun i hi => ?_, fun i j hij hj => ?_⟩
  · have := (h3 i hi).1; omega
  · induction j with
    | zero => omega
    | succ j ih =>
      have h4 := (h3 (j + 1) hj).2.resolve_left (by omega)
      rw [Nat.add_sub_cancel] at h4
      rcases Nat.lt_or_ge i j with k | k
      · exact ltE_trans (ih k (by omega)) h4
      · rw [show i = j by omega]; exact h4
/-- the edges of a left vertex -/
def ofV (l : List (Int × Int)) (v : Nat) : List (Int × Int) := l.filter fun e => e.1 == (v : Int)
theorem split3 {α : Type} (l : List α) {lo hi : Nat} (h : lo ≤ hi) : l = l.take lo ++ (((l.drop lo).take (hi - lo)) ++ l.drop hi) := by
  conv => lhs; rw [← List.take_append_drop lo l, ← List.take_append_drop (hi - lo) (l.drop lo)]
  rw [List.drop_drop, show lo + (hi - lo) = hi by omega]
theorem low_le {l : List (Int × Int)} {s t : Int × Int} {i j : Nat} (hi : IsLow l s i) (hj : IsLow l t j) (h : ltE s t) : i ≤ j := by
  rcases Nat.lt_or_ge j i with k | k
  · exact absurd (ltE_trans (hi.lo j k) h) (hj.hi j (Nat.le_refl _) (by have := hi.le; omega))
  · exact k
theorem ofV_part {l : List (Int × Int)} {v lo hi : Nat} (hr : ∀ i, i < l.length → 0 ≤ (nthE l i).2) (h1 : IsLow l ((v : Int), 0) lo) (h2 : IsLow l ((v : Int) + 1, 0) hi) : ofV l v = (l.drop lo).take (hi - lo) := by
  have hle : lo ≤ hi := low_le h1 h2 (.inl (by show (v : Int) < v + 1; omega))
  unfold ofV
  conv => lhs; rw [split3 l hle, List.filter_append, List.filter_append]
  have a : (l.take lo).filter (fun e => e.1 == (v : Int)) = [] := by
    rw [List.filter_eq_nil_iff]
    intro e he
    obtain ⟨q, hq, rfl⟩ := List.mem_iff_getElem.1 he
    rw [List.length_take] at hq
    have hlt := h1.lo q (by omega)
    rw [nthE_get (by omega)] at hlt
    rw [List.getElem_take, beq_iff_eq]
    intro e
    have := hr q (by omega)
    rw [nthE_get (by omega)] at this
    rcases hlt with k | ⟨_, k⟩
    · rw [e] at k; exact absurd k (by show ¬ (v : Int) < v; omega)
    · have k : (l[q]'(by omega)).2 < 0 := k
      omega
  have b : (l.drop hi).filter (fun e => e.1 == (v : Int)) = [] := by
    rw [List.filter_eq_nil_iff]
    intro e he
    obtain ⟨q, hq, rfl⟩ := List.mem_iff_getElem.1 he
    rw [List.length_drop] at hq
    have hlt := h2.hi (hi + q) (by omega) (by omega)
    rw [nthE_get (by omega)] at hlt
    rw [List.getElem_drop, beq_iff_eq]
    intro e
    refine hlt (.inl ?_)
    rw [e]
    show (v : Int) < v + 1
    omega
  have c : ((l.drop lo).take (hi - lo)).filter (fun e => e.1 == (v : Int)) = (l.drop lo).take (hi - lo) := by
    rw [List.filter_eq_self]
    intro e he
    obtain ⟨q, hq, rfl⟩ := List.mem_iff_getElem.1 he
    have hq2 : q < hi - lo ∧ lo + q < l.length := by rw [List.length_take, List.length_drop] at hq; omega
    rw [List.getElem_take, List.getElem_drop, beq_iff_eq]
    have k1 := h1.hi (lo + q) (by omega) hq2.2
    have k2 := h2.lo (lo + q) (by omega)
    have k3 := hr (lo + q) hq2.2
    rw [nthE_get hq2.2] at k1 k2 k3
    unfold ltE at k1 k2
    dsimp only at k1 k2
    omega
  rw [a, b, c, List.nil_append, List.append_nil]
theorem mem_ofV {l : List (Int × Int)} {v : Nat} {e : Int × Int} : e ∈ ofV l v ↔ e ∈ l ∧ e.1 = (v : Int) := by unfold ofV; rw [List.mem_filter, beq_iff_eq]
/-- the edge relation in natural numbers -/
def edB (g : GrD) (v r : Nat) : Bool := g.edges.contains ((v : Int), (r : Int))
end Go.Proofs.Ytbkgkgigcohbpaa
/- Plain mathematics of matchings: augmenting along a path; what a failed search leaves stays closed. No program here. -/
namespace Go.Proofs.Ytbkgkgigcohbpaa
open Sm
/-- f, but x at a -/
def upd (f : Nat → Int) (a : Nat) (x : Int) : Nat → Int := fun i => if i = a then x else f i
theorem upd_same (f : Nat → Int) (a : Nat) (x : Int) : upd f a x a = x := if_pos rfl
theorem upd_other {f : Nat → Int} {a i : Nat} {x : Int} (h : i ≠ a) : upd f a x i = f i := if_neg h
/-- a matching seen from both sides: -1 where there is none -/
structure MInv (E : Nat → Nat → Bool) (L R : Nat) (lf rf : Nat → Int) : Prop where
  rl : ∀ r, r < R → 0 ≤ rf r → ∃ v : Nat, rf r = (v : Int) ∧ v < L ∧ lf v = (r : Int)
  lr : ∀ v, v < L → 0 ≤ lf v → ∃ r : Nat, lf v = (r : Int) ∧ r < R ∧ rf r = (v : Int) ∧ E v r = true
  ll : ∀ v, v < L → -1 ≤ lf v
  rr : ∀ r, r < R → -1 ≤ rf r
/-- a set of right vertices, all matched, with all neighbours of their partners -/
def Clo (E : Nat → Nat → Bool) (L R : Nat) (rf : Nat → Int) (C : Nat → Prop) : Prop := ∀ r, r < R → C r → ∃ v : Nat, rf r = (v : Int) ∧ v < L ∧ ∀ q, q < R → E v q = true → C q
structure AugY (E : Nat → Nat → Bool) (L R : Nat) (S : Nat → Bool) (v : Nat) (lf rf lf' rf' : Nat → Int) : Prop where
  keep : ∀ r, r < R → S r = true → rf' r = rf r
  rl : ∀ r, r < R → lf v ≠ (r : Int) → 0 ≤ rf' r → ∃ u : Nat, rf' r = (u : Int) ∧ u < L ∧ lf' u = (r : Int)
  lr : ∀ u, u < L → 0 ≤ lf' u → ∃ r : Nat, lf' u = (r : Int) ∧ r < R ∧ rf' r = (u : Int) ∧ E u r = true
  ll : ∀ v, v < L → -1 ≤ lf' v
  rr : ∀ r, r < R → -1 ≤ rf' r
  got : ∃ r : Nat, lf' v = (r : Int) ∧ r < R ∧ S r = false
  more : ∀ u, u < L → 0 ≤ lf u → 0 ≤ lf' u
  only : ∀ u, u < L → u ≠ v → 0 ≤ lf' u → 0 ≤ lf u
  clo : ∀ C, Clo E L R rf C → (∃ q, q < R ∧ E v q = true ∧ ¬ C q) ∧ ∀ r, r < R → C r → rf' r = rf r
/-- the search on its way: the first k neighbours (rn) are seen, and all that came to be seen is closed -/
structure Sch (E : Nat → Nat → Bool) (L R : Nat) (rf : Nat → Int) (S0 S : Nat → Bool) (rn : Nat → Nat) (k : Nat) : Prop where
  sub : ∀ r, r < R → S0 r = true → S r = true
  first : ∀ j, j < k → S (rn j) = true
  clo : ∀ r, r < R → S r = true → S0 r = true ∨ ∃ u : Nat, rf r = (u : Int) ∧ u < L ∧ ∀ q, q < R → E u q = true → S q = true
/-- the search has failed -/
structure AugN (E : Nat → Nat → Bool) (L R : Nat) (rf : Nat → Int) (S0 S : Nat → Bool) (v : Nat) : Prop where
  sub : ∀ r, r < R → S0 r = true → S r = true
  nb : ∀ q, q < R → E v q = true → S q = true
  clo : ∀ r, r < R → S r = true → S0 r = true ∨ ∃ u : Nat, rf r = (u : Int) ∧ u < L ∧ ∀ q, q < R → E u q = true → S q = true
/-- S with r -/
def addS (S : Nat → Bool) (r : Nat) : Nat → Bool := fun q => if q = r then true else S q
theorem addS_same (S : Nat → Bool) (r : Nat) : addS S r r = true := if_pos rfl
theorem addS_sub {S : Nat → Bool} {r q : Nat} (h : S q = true) : addS S r q = true := by unfold addS; split; rfl; exact h
theorem addS_no {S : Nat → Bool} {r q : Nat} (h : addS S r q = false) : q ≠ r ∧ S q = false := by
  unfold addS at h
  split at h
  · cases h
  · next hn => exact ⟨hn, h⟩
section
variable {E : Nat → Nat → Bool} {L R : Nat} {lf rf lf1 rf1 : Nat → Int} {S0 S S' : Nat → Bool} {rn : Nat → Nat} {k v u r : Nat}
theorem Sch.start : Sch E L R rf S S rn 0 := ⟨fun _ _ h => h, fun _ h => absurd h (by omega), fun _ _ h => .inl h⟩
theorem Sch.seen (h : Sch E L R rf S0 S rn k) (hs : S (rn k) = true) : Sch E L R rf S0 S rn (k + 1) :=
  ⟨h.sub, fun j hj => by
    rcases Nat.lt_or_ge j k with h1 | h1
    · exact h.first j h1
    · rw [show j = k by omega]; exact hs, h.clo⟩
theorem Sch.fail (h : Sch E L R rf S0 S rn k) (hr : rn k < R) (hlt : ∀ j, j < k → rn j < R) (hu : rf (rn k) = (u : Int)) (huL : u < L) (hn : AugN E L R rf (addS S (rn k)) S' u) : Sch E L R rf S0 S' rn (k + 1) := by
  have up : ∀ q, q < R → S q = true → S' q = true := fun q hq hs => hn.sub q hq (addS_sub hs)
  refine ⟨fun q hq hs => up q hq (h.sub q hq hs), fun j hj => ?_, fun q hq hs => ?_⟩
  · rcases Nat.lt_or_ge j k with h1 | h1
    · exact up _ (hlt j h1) (h.first j h1)
    · rw [show j = k by omega]; exact hn.sub _ hr (addS_same _ _)
  · rcases hn.clo q hq hs with h1 | h1
    · by_cases e : q = rn k
      · subst e
        exact .inr ⟨u, hu, huL, hn.nb⟩
      · have h2 : S q = true := by unfold addS at h1; rwa [if_neg e] at h1
        rcases h.clo q hq h2 with h3 | ⟨u', k1, k2, k3⟩
        · exact .inl h3
        · exact .inr ⟨u', k1, k2, fun p hp hE => up p hp (k3 p hp hE)⟩
    · exact .inr h1
theorem Sch.none (h : Sch E L R rf S0 S rn k) (hall : ∀ q, q < R → E v q = true → ∃ j, j < k ∧ rn j = q) : AugN E L R rf S0 S v :=
  ⟨h.sub, fun q hq hE => by obtain ⟨j, hj, rfl⟩ := hall q hq hE; exact h.first j hj, h.clo⟩
/-- a free right vertex -/
theorem aug_free (hm : MInv E L R lf rf) (hv : v < L) (hr : r < R) (hE : E v r = true) (hs : S r = false) (hf : rf r < 0) (hvS : 0 ≤ lf v → ∃ q : Nat, lf v = (q : Int) ∧ S q = true) : AugY E L R S v lf rf (upd lf v r) (upd rf r v) := by
  refine ⟨fun q hq hqs => upd_other fun e => ?_, fun q hq hne h0 => ?_, fun w hw h0 => ?_, fun w hw => ?_, fun q hq => ?_, ⟨r, upd_same _ _ _, hr, hs⟩, fun w hw h0 => ?_, fun w hw hne h0 => ?_, fun C hC => ⟨⟨r, hr, hE, fun hc => ?_⟩, fun q hq hc => upd_other fun e => ?_⟩⟩
  · rw [e, hs] at hqs; cases hqs
  · by_cases e : q = r
    · subst e
      exact ⟨v, upd_same _ _ _, hv, upd_same _ _ _⟩
    · rw [upd_other e] at h0 ⊢
      obtain ⟨w, k1, k2, k3⟩ := hm.rl q hq h0
      refine ⟨w, k1, k2, ?_⟩
      rw [upd_other (fun e2 => hne (by rw [← e2]; exact k3))]
      exact k3
  · by_cases e : w = v
    · subst e
      exact ⟨r, upd_same _ _ _, hr, upd_same _ _ _, hE⟩
    · rw [upd_other e] at h0 ⊢
      obtain ⟨q, k1, k2, k3, k4⟩ := hm.lr w hw h0
      exact ⟨q, k1, k2, by rw [upd_other (fun e2 => by rw [e2] at k3; omega)]; exact k3, k4⟩
  · by_cases e : w = v
    · subst e; rw [upd_same]; omega
    · rw [upd_other e]; exact hm.ll w hw
  · by_cases e : q = r
    · subst e; rw [upd_same]; omega
    · rw [upd_other e]; exact hm.rr q hq
  · by_cases e : w = v
    · subst e; rw [upd_same]; omega
    · rw [upd_other e]; exact h0
  · rwa [upd_other hne] at h0
  · obtain ⟨w, k1, -⟩ := hC r hr hc
    omega
  · rw [e] at hc
    obtain ⟨w, k1, -⟩ := hC r hr hc
    omega
/-- the partner of r has found another -/
theorem aug_yes (hm : MInv E L R lf rf) (hv : v < L) (hr : r < R) (hE : E v r = true) (hs0 : ∀ q, q < R → S0 q = true → S q = true) (hs : S r = false) (hu : rf r = (u : Int)) (hvS : 0 ≤ lf v → ∃ q : Nat, lf v = (q : Int) ∧ q < R ∧ S q = true)
    (hy : AugY E L R (addS S r) u lf rf lf1 rf1) : AugY E L R S0 v lf rf (upd lf1 v r) (upd rf1 r v) := by
  have hur : lf u = (r : Int) ∧ u < L := by
    obtain ⟨w, k1, k2, k3⟩ := hm.rl r hr (by omega)
    have : w = u := by omega
    subst this
    exact ⟨k3, k2⟩
  have huv : u ≠ v := fun e => by
    subst e
    obtain ⟨q, k1, -, k2⟩ := hvS (by rw [hur.1]; omega)
    have : q = r := by rw [hur.1] at k1; omega
    rw [this, hs] at k2
    cases k2
  have hr1 : rf1 r = (u : Int) := (hy.keep r hr (addS_same _ _)).trans hu
  obtain ⟨r1, g1, g2, g3⟩ := hy.got
  have g3 := addS_no g3
  refine ⟨fun q hq hqs => ?_, fun q hq hne h0 => ?_, fun w hw h0 => ?_, fun w hw => ?_, fun q hq => ?_, ⟨r, upd_same _ _ _, hr, ?_⟩, fun w hw h0 => ?_, fun w hw hne h0 => ?_, fun C hC => ?_⟩
  · have := hs0 q hq hqs
    rw [upd_other (fun e => by rw [e, hs] at this; cases this)]
    exact hy.keep q hq (addS_sub this)
  · by_cases e : q = r
    · subst e
      exact ⟨v, upd_same _ _ _, hv, upd_same _ _ _⟩
    · rw [upd_other e] at h0 ⊢
      obtain ⟨w, k1, k2, k3⟩ := hy.rl q hq (by rw [hur.1]; omega) h0
      refine ⟨w, k1, k2, ?_⟩
      by_cases e2 : w = v
      · subst e2
        exfalso
        by_cases h2 : 0 ≤ lf w
        · obtain ⟨q0, j1, j2, j3⟩ := hvS h2
          have j4 := hy.keep q0 j2 (addS_sub j3)
          obtain ⟨q1, j5, j6, j7, -⟩ := hm.lr w hv h2
          have : q1 = q0 := by omega
          subst this
          obtain ⟨w2, m1, m2, m3⟩ := hy.rl q1 j2 (by
            rw [hur.1]
            intro e3
            have : r = q1 := by omega
            rw [← this] at j7
            omega) (by omega)
          have : w2 = w := by omega
          subst this
          omega
        · have := hy.only w hv (fun e => huv e.symm) (by omega)
          exact h2 this
      · rw [upd_other e2]; exact k3
  · by_cases e : w = v
    · subst e
      exact ⟨r, upd_same _ _ _, hr, upd_same _ _ _, hE⟩
    · rw [upd_other e] at h0 ⊢
      obtain ⟨q, k1, k2, k3, k4⟩ := hy.lr w hw h0
      refine ⟨q, k1, k2, ?_, k4⟩
      rw [upd_other fun e2 => ?_]
      · exact k3
      · subst e2
        have : w = u := by omega
        subst this
        omega
  · by_cases e : w = v
    · subst e; rw [upd_same]; omega
    · rw [upd_other e]; exact hy.ll w hw
  · by_cases e : q = r
    · subst e; rw [upd_same]; omega
    · rw [upd_other e]; exact hy.rr q hq
  · cases e : S0 r
    · rfl
    · rw [hs0 r hr e] at hs; cases hs
  · by_cases e : w = v
    · subst e; rw [upd_same]; omega
    · rw [upd_other e]; exact hy.more w hw h0
  · rw [upd_other hne] at h0
    by_cases e : w = u
    · subst e; rw [hur.1]; omega
    · exact hy.only w hw e h0
  · obtain ⟨⟨q, k1, k2, k3⟩, k4⟩ := hy.clo C hC
    have hrC : ¬ C r := fun hc => by
      obtain ⟨w, j1, j2, j3⟩ := hC r hr hc
      have : w = u := by omega
      subst this
      exact k3 (j3 q k1 k2)
    exact ⟨⟨r, hr, hE, hrC⟩, fun q hq hc => (upd_other (i := q) (a := r) fun e => hrC (e ▸ hc)).trans (k4 q hq hc)⟩
end
end Go.Proofs.Ytbkgkgigcohbpaa
/- Plain mathematics of matchings: the search goes through the left vertices; what it leaves unmatched is shut in. No program here. -/
namespace Go.Proofs.Ytbkgkgigcohbpaa
/-- after the first k left vertices -/
structure FInv (E : Nat → Nat → Bool) (L R : Nat) (lf rf : Nat → Int) (k : Nat) : Prop where
  inv : MInv E L R lf rf
  free : ∀ v, v < L → k ≤ v → lf v < 0
  clo : ∀ u, u < L → u < k → lf u < 0 → ∃ C : Nat → Prop, Clo E L R rf C ∧ ∀ q, q < R → E u q = true → C q
section
variable {E : Nat → Nat → Bool} {L R : Nat} {lf rf lf' rf' : Nat → Int} {S : Nat → Bool} {k : Nat}
theorem FInv.start : FInv E L R (fun _ => -1) (fun _ => -1) 0 :=
  ⟨⟨fun _ _ h => absurd h (by decide), fun _ _ h => absurd h (by decide), fun _ _ => by decide, fun _ _ => by decide⟩, fun _ _ _ => by decide, fun _ _ h => absurd h (by omega)⟩
theorem FInv.no (h : FInv E L R lf rf k) (hn : AugN E L R rf (fun _ => false) S k) : FInv E L R lf rf (k + 1) :=
  ⟨h.inv, fun v hv hk => h.free v hv (by omega), fun u hu huk h0 => by
    rcases Nat.lt_or_ge u k with h1 | h1
    · exact h.clo u hu h1 h0
    · obtain rfl : u = k := by omega
      exact ⟨fun r => S r = true, fun r hr hs => by
        rcases hn.clo r hr hs with h2 | h2
        · cases h2
        · exact h2, fun q hq he => hn.nb q hq he⟩⟩
theorem FInv.yes (h : FInv E L R lf rf k) (hk : k < L) (hy : AugY E L R (fun _ => false) k lf rf lf' rf') : FInv E L R lf' rf' (k + 1) := by
  have h0 := h.free k hk (Nat.le_refl _)
  refine ⟨⟨fun r hr h1 => hy.rl r hr (by omega) h1, hy.lr, hy.ll, hy.rr⟩, fun v hv hkv => ?_, fun u hu huk h1 => ?_⟩
  · have h2 := h.free v hv (by omega)
    have h3 := hy.only v hv (by omega)
    rcases Int.lt_or_le (lf' v) 0 with h4 | h4
    · exact h4
    · have := h3 h4; omega
  · obtain ⟨r, g1, -, -⟩ := hy.got
    have hne : u ≠ k := fun e => by rw [e] at h1; omega
    have h2 : lf u < 0 := by
      rcases Int.lt_or_le (lf u) 0 with h4 | h4
      · exact h4
      · have := hy.more u hu h4; omega
    obtain ⟨C, c1, c2⟩ := h.clo u hu (by omega) h2
    refine ⟨C, fun r hr hc => ?_, c2⟩
    rw [(hy.clo C c1).2 r hr hc]
    exact c1 r hr hc
end
end Go.Proofs.Ytbkgkgigcohbpaa
/- Plain mathematics of matchings: what the walk along alternating paths reaches. No program here. -/
namespace Go.Proofs.Ytbkgkgigcohbpaa
/-- a pair of sets that the walk does not leave -/
structure Shut2 (E : Nat → Nat → Bool) (L R : Nat) (rf : Nat → Int) (A B : Nat → Prop) : Prop where
  nb : ∀ u r, u < L → r < R → A u → E u r = true → B r
  back : ∀ r (q : Nat), r < R → q < L → B r → rf r = (q : Int) → A q
/-- all that u leads to -/
def Full (E : Nat → Nat → Bool) (L R : Nat) (rf : Nat → Int) (Sl Sr : Nat → Bool) (u : Nat) : Prop := ∀ r, r < R → E u r = true → Sr r = true ∧ ∀ q : Nat, q < L → rf r = (q : Int) → Sl q = true
structure WkY (E : Nat → Nat → Bool) (L R : Nat) (rf : Nat → Int) (Sl Sr : Nat → Bool) (v : Nat) (Sl' Sr' : Nat → Bool) : Prop where
  subl : ∀ u, u < L → Sl u = true → Sl' u = true
  subr : ∀ r, r < R → Sr r = true → Sr' r = true
  has : Sl' v = true
  step : ∀ u, u < L → Sl' u = true → Sl u = true ∨ Full E L R rf Sl' Sr' u
  min : ∀ A B, Shut2 E L R rf A B → A v → (∀ u, u < L → Sl u = true → A u) → (∀ r, r < R → Sr r = true → B r) → (∀ u, u < L → Sl' u = true → A u) ∧ (∀ r, r < R → Sr' r = true → B r)
/-- the walk from v on its way, v itself among Sl -/
structure Wk (E : Nat → Nat → Bool) (L R : Nat) (rf : Nat → Int) (Sl Sr : Nat → Bool) (v : Nat) (Sl' Sr' : Nat → Bool) (rn : Nat → Nat) (k : Nat) : Prop where
  subl : ∀ u, u < L → addS Sl v u = true → Sl' u = true
  subr : ∀ r, r < R → Sr r = true → Sr' r = true
  step : ∀ u, u < L → Sl' u = true → addS Sl v u = true ∨ Full E L R rf Sl' Sr' u
  first : ∀ j, j < k → Sr' (rn j) = true ∧ ∀ q : Nat, q < L → rf (rn j) = (q : Int) → Sl' q = true
  min : ∀ A B, Shut2 E L R rf A B → A v → (∀ u, u < L → Sl u = true → A u) → (∀ r, r < R → Sr r = true → B r) → (∀ u, u < L → Sl' u = true → A u) ∧ (∀ r, r < R → Sr' r = true → B r)
section
variable {E : Nat → Nat → Bool} {L R : Nat} {rf : Nat → Int} {Sl Sr Sl1 Sr1 Sl2 Sr2 : Nat → Bool} {v k r : Nat} {rn : Nat → Nat}
theorem Full.mono {u : Nat} (h : Full E L R rf Sl1 Sr1 u) (h1 : ∀ u, u < L → Sl1 u = true → Sl2 u = true) (h2 : ∀ r, r < R → Sr1 r = true → Sr2 r = true) : Full E L R rf Sl2 Sr2 u := fun r hr he =>
  ⟨h2 r hr (h r hr he).1, fun q hq hf => h1 q hq ((h r hr he).2 q hq hf)⟩
theorem WkY.old (h : Sl v = true) : WkY E L R rf Sl Sr v Sl Sr := ⟨fun _ _ h => h, fun _ _ h => h, h, fun _ _ h => .inl h, fun _ _ _ _ h1 h2 => ⟨h1, h2⟩⟩
theorem Wk.start : Wk E L R rf Sl Sr v (addS Sl v) Sr rn 0 :=
  ⟨fun _ _ h => h, fun _ _ h => h, fun _ _ h => .inl h, fun _ h => absurd h (by omega), fun A B _ hv h1 h2 => ⟨fun u hu hs => by
    by_cases e : u = v
    · rw [e]; exact hv
    · refine h1 u hu ?_
      unfold addS at hs
      rwa [if_neg e] at hs, h2⟩⟩
/-- a neighbour without a partner -/
theorem Wk.free (h : Wk E L R rf Sl Sr v Sl1 Sr1 rn k) (hv : v < L) (hr : rn k < R) (hE : E v (rn k) = true) (hlt : ∀ j, j < k → rn j < R) (hf : rf (rn k) < 0) : Wk E L R rf Sl Sr v Sl1 (addS Sr1 (rn k)) rn (k + 1) := by
  have h2 : ∀ r, r < R → Sr1 r = true → addS Sr1 (rn k) r = true := fun r _ hs => addS_sub hs
  refine ⟨h.subl, fun r hr hs => addS_sub (h.subr r hr hs), fun u hu hs => (h.step u hu hs).imp id fun hf => hf.mono (fun _ _ hs => hs) h2, fun j hj => ?_, fun A B hAB hvA h1 hB => ?_⟩
  · rcases Nat.lt_or_ge j k with h3 | h3
    · exact ⟨h2 _ (hlt j h3) (h.first j h3).1, (h.first j h3).2⟩
    · obtain rfl : j = k := by omega
      exact ⟨addS_same _ _, fun q hq e => by omega⟩
  · obtain ⟨m1, m2⟩ := h.min A B hAB hvA h1 hB
    refine ⟨m1, fun r hr hs => ?_⟩
    by_cases e : r = rn k
    · rw [e]; exact hAB.nb v _ hv (by assumption) hvA hE
    · refine m2 r hr ?_
      unfold addS at hs
      rwa [if_neg e] at hs
/-- a neighbour with the partner q, from which the walk has gone on -/
theorem Wk.go {q : Nat} (h : Wk E L R rf Sl Sr v Sl1 Sr1 rn k) (hv : v < L) (hr : rn k < R) (hE : E v (rn k) = true) (hlt : ∀ j, j < k → rn j < R) (hq : q < L) (hf : rf (rn k) = (q : Int)) (hy : WkY E L R rf Sl1 (addS Sr1 (rn k)) q Sl2 Sr2) : Wk E L R rf Sl Sr v Sl2 Sr2 rn (k + 1) := by
  have h2 : ∀ r, r < R → Sr1 r = true → Sr2 r = true := fun r hr hs => hy.subr r hr (addS_sub hs)
  refine ⟨fun u hu hs => hy.subl u hu (h.subl u hu hs), fun r hr hs => h2 r hr (h.subr r hr hs), fun u hu hs => ?_, fun j hj => ?_, fun A B hAB hvA h1 hB => ?_⟩
  · rcases hy.step u hu hs with h3 | h3
    · exact (h.step u hu h3).imp id fun hf => hf.mono hy.subl h2
    · exact .inr h3
  · rcases Nat.lt_or_ge j k with h3 | h3
    · exact ⟨h2 _ (hlt j h3) (h.first j h3).1, fun q hq e => hy.subl q hq ((h.first j h3).2 q hq e)⟩
    · obtain rfl : j = k := by omega
      exact ⟨hy.subr _ hr (addS_same _ _), fun q' _ e => by rw [show q' = q by omega]; exact hy.has⟩
  · obtain ⟨m1, m2⟩ := h.min A B hAB hvA h1 hB
    have hB2 : B (rn k) := hAB.nb v _ hv hr hvA hE
    refine hy.min A B hAB (hAB.back _ q hr hq hB2 hf) m1 fun r hr hs => ?_
    by_cases e : r = rn k
    · rw [e]; exact hB2
    · refine m2 r hr ?_
      unfold addS at hs
      rwa [if_neg e] at hs
theorem Wk.done (h : Wk E L R rf Sl Sr v Sl1 Sr1 rn k) (hv : v < L) (hall : ∀ q, E v q = true → ∃ j, j < k ∧ rn j = q) : WkY E L R rf Sl Sr v Sl1 Sr1 :=
  ⟨fun u hu hs => h.subl u hu (addS_sub hs), h.subr, h.subl v hv (addS_same _ _), fun u hu hs => by
    rcases h.step u hu hs with h1 | h1
    · by_cases e : u = v
      · subst e
        refine .inr fun r _ he => ?_
        obtain ⟨j, hj, rfl⟩ := hall r he
        exact h.first j hj
      · refine .inl ?_
        unfold addS at h1
        rwa [if_neg e] at h1
    · exact .inr h1, h.min⟩
/-- after walks from all unmatched ones of the first k -/
structure Rd (E : Nat → Nat → Bool) (L R : Nat) (lf rf : Nat → Int) (Sl Sr : Nat → Bool) (k : Nat) : Prop where
  from_ : ∀ v, v < L → v < k → lf v < 0 → Sl v = true
  full : ∀ u, u < L → Sl u = true → Full E L R rf Sl Sr u
  min : ∀ A B, Shut2 E L R rf A B → (∀ v, v < L → lf v < 0 → A v) → (∀ u, u < L → Sl u = true → A u) ∧ (∀ r, r < R → Sr r = true → B r)
theorem Rd.start {lf : Nat → Int} : Rd E L R lf rf (fun _ => false) (fun _ => false) 0 :=
  ⟨fun _ _ h => absurd h (by omega), fun _ _ h => absurd h (by decide), fun _ _ _ _ => ⟨fun _ _ h => absurd h (by decide), fun _ _ h => absurd h (by decide)⟩⟩
theorem Rd.skip {lf : Nat → Int} (h : Rd E L R lf rf Sl Sr k) (hk : 0 ≤ lf k) : Rd E L R lf rf Sl Sr (k + 1) :=
  ⟨fun v hv hvk h0 => h.from_ v hv (by have : v ≠ k := fun e => by rw [e] at h0; omega
                                       omega) h0, h.full, h.min⟩
theorem Rd.go {lf : Nat → Int} (h : Rd E L R lf rf Sl Sr k) (hk : k < L) (h0 : lf k < 0) (hy : WkY E L R rf Sl Sr k Sl1 Sr1) : Rd E L R lf rf Sl1 Sr1 (k + 1) :=
  ⟨fun v hv hvk h1 => by
    by_cases e : v = k
    · rw [e]; exact hy.has
    · exact hy.subl v hv (h.from_ v hv (by omega) h1), fun u hu hs => by
    rcases hy.step u hu hs with h1 | h1
    · exact (h.full u hu h1).mono hy.subl hy.subr
    · exact h1, fun A B hAB hA => by
    obtain ⟨m1, m2⟩ := h.min A B hAB hA
    exact hy.min A B hAB (hA k hk h0) m1 m2⟩
/-- the matching as options -/
def opt (f : Nat → Int) : Nat → Option Nat := fun v => if f v < 0 then none else some (f v).toNat
theorem opt_none {f : Nat → Int} {v : Nat} : opt f v = none ↔ f v < 0 := by unfold opt; split <;> simp [*]
theorem opt_some {f : Nat → Int} {v r : Nat} : opt f v = some r ↔ f v = (r : Int) := by
  unfold opt
  split
  · simp; omega
  · simp only [Option.some.injEq]; omega
theorem MInv.mat {lf : Nat → Int} (h : MInv E L R lf rf) : Mat E L R (opt lf) := by
  refine ⟨fun v r hv e => ?_, fun u v r hu hv e1 e2 => ?_⟩
  · rw [opt_some] at e
    obtain ⟨q, k1, k2, k3, k4⟩ := h.lr v hv (by omega)
    have : q = r := by omega
    subst this
    exact ⟨k4, k2⟩
  · rw [opt_some] at e1 e2
    obtain ⟨q, k1, k2, k3, -⟩ := h.lr u hu (by omega)
    obtain ⟨p, j1, j2, j3, -⟩ := h.lr v hv (by omega)
    have : q = p := by omega
    subst this
    omega
/-- Koenig: the sets of the walk are a cover's -/
theorem rch_of {lf : Nat → Int} (h : FInv E L R lf rf L) (hd : Rd E L R lf rf Sl Sr L) : Rch E L R (opt lf) (opt rf) Sl Sr := by
  have hback : ∀ r, r < R → Sr r = true → (∃ v : Nat, rf r = (v : Int) ∧ v < L) ∧ ∃ u, u < L ∧ Sl u = true ∧ E u r = true := fun r hr hs => by
    -- the union of the closed sets
    have hS : Shut2 E L R rf (fun u => ∀ q, q < R → E u q = true → ∃ C : Nat → Prop, Clo E L R rf C ∧ C q) (fun q => ∃ C : Nat → Prop, Clo E L R rf C ∧ C q) :=
      ⟨fun u r _ hr hA he => hA r hr he, fun r q hr _ ⟨C, c1, c2⟩ e p hp he => by
        obtain ⟨w, k1, k2, k3⟩ := c1 r hr c2
        have : w = q := by omega
        subst this
        exact ⟨C, c1, k3 p hp he⟩⟩
    obtain ⟨-, m2⟩ := hd.min _ _ hS fun v hv h0 q hq he => by
      obtain ⟨C, c1, c2⟩ := h.clo v hv hv h0
      exact ⟨C, c1, c2 q hq he⟩
    obtain ⟨C, c1, c2⟩ := m2 r hr hs
    obtain ⟨v, k1, k2, -⟩ := c1 r hr c2
    refine ⟨⟨v, k1, k2⟩, ?_⟩
    have hT : Shut2 E L R rf (fun u => Sl u = true) (fun q => Sr q = true ∧ ∃ u, u < L ∧ Sl u = true ∧ E u q = true) :=
      ⟨fun u q hu hq hA he => ⟨(hd.full u hu hA q hq he).1, u, hu, hA, he⟩, fun q p hq hp ⟨b1, u, b2, b3, b4⟩ e => (hd.full u b2 b3 q hq b4).2 p hp e⟩
    exact ((hd.min _ _ hT fun v hv h0 => hd.from_ v hv hv h0).2 r hr hs).2
  refine ⟨fun v r hv hr => ?_, fun v r hr e => ?_, fun v hv e => ?_, fun v r hv hr hs he => (hd.full v hv hs r hr he).1, fun r hr hs => ?_⟩
  · rw [opt_some, opt_some]
    constructor
    · intro e
      obtain ⟨q, k1, k2, k3, -⟩ := h.inv.lr v hv (by omega)
      have : q = r := by omega
      subst this
      exact k3
    · intro e
      obtain ⟨u, k1, k2, k3⟩ := h.inv.rl r hr (by omega)
      have : u = v := by omega
      subst this
      exact k3
  · rw [opt_some] at e
    obtain ⟨u, k1, k2, -⟩ := h.inv.rl r hr (by omega)
    omega
  · rw [opt_none] at e
    exact hd.from_ v hv hv e
  · obtain ⟨⟨v, k1, k2⟩, u, b1, b2, b3⟩ := hback r hr hs
    exact ⟨v, opt_some.2 k1, (hd.full u b1 b2 r hr b3).2 v k2 k1⟩
/-- there is a walk's end, whether it is computed or not: so the matching is of the greatest size -/
theorem finv_best {lf : Nat → Int} (h : FInv E L R lf rf L) {m : Nat → Option Nat} (hm : Mat E L R m) : sizeM m L ≤ sizeM (opt lf) L := by
  -- the cover: right, the union of the closed sets; left, what is not shut in
  have hfree : ∀ v, v < L → opt lf v = none → ∀ q, q < R → E v q = true → ∃ C : Nat → Prop, Clo E L R rf C ∧ C q := fun v hv e q hq he => by
    obtain ⟨C, c1, c2⟩ := h.clo v hv hv (opt_none.1 e)
    exact ⟨C, c1, c2 q hq he⟩
  have hdec : ∃ Sr : Nat → Bool, ∀ q, Sr q = true ↔ ∃ C : Nat → Prop, Clo E L R rf C ∧ C q := ⟨fun q => @decide _ (Classical.propDecidable (∃ C : Nat → Prop, Clo E L R rf C ∧ C q)), fun q => by simp⟩
  obtain ⟨Sr, hSr⟩ := hdec
  have hdec2 : ∃ Sl : Nat → Bool, ∀ u, Sl u = true ↔ ∀ q, q < R → E u q = true → Sr q = true := ⟨fun u => @decide _ (Classical.propDecidable (∀ q, q < R → E u q = true → Sr q = true)), fun q => by simp⟩
  obtain ⟨Sl, hSl⟩ := hdec2
  have hr : Rch E L R (opt lf) (opt rf) Sl Sr := by
    refine ⟨fun v r hv hr => ?_, fun v r hr e => ?_, fun v hv e => (hSl v).2 fun q hq he => (hSr q).2 (hfree v hv e q hq he), fun v r hv hr hs he => (hSl v).1 hs r hr he, fun r hr hs => ?_⟩
    · rw [opt_some, opt_some]
      constructor
      · intro e
        obtain ⟨q, k1, k2, k3, -⟩ := h.inv.lr v hv (by omega)
        have : q = r := by omega
        subst this
        exact k3
      · intro e
        obtain ⟨u, k1, k2, k3⟩ := h.inv.rl r hr (by omega)
        have : u = v := by omega
        subst this
        exact k3
    · rw [opt_some] at e
      obtain ⟨u, k1, k2, -⟩ := h.inv.rl r hr (by omega)
      omega
    · obtain ⟨C, c1, c2⟩ := (hSr r).1 hs
      obtain ⟨v, k1, k2, k3⟩ := c1 r hr c2
      exact ⟨v, opt_some.2 k1, (hSl v).2 fun q hq he => (hSr q).2 ⟨C, c1, k3 q hq he⟩⟩
  exact hr.best h.inv.mat hm
end
end Go.Proofs.Ytbkgkgigcohbpaa
