/- The memory of find: words and their laws. -/
import Derived.Test.YtolappaekjdcgaaA6
import Derived.Test.YtolappaekjdcgaaL2
import Derived.Test.YtolappaekjdcgaaMp
namespace Go.Proofs.Ytolappaekjdcgaa
open Go.RowKit Go.Shelf Go.Deep Sm
/-- a set of ints read at natural numbers -/
def Sn (S : Int → Bool) : Nat → Bool := fun r => S (r : Int)
theorem Sn_upd (S : Int → Bool) (r : Nat) : Sn (updS S (r : Int) true) = addS (Sn S) r := by
  funext q
  unfold Sn updS addS
  by_cases h : q = r
  · rw [if_pos h, if_pos (by omega)]
  · rw [if_neg h, if_neg (by omega)]
/-- how many are not seen -/
def unseen (S : Nat → Bool) (R : Nat) : Nat := sumB (fun r => if S r = true then 0 else 1) R
theorem unseen_le {S S' : Nat → Bool} {R : Nat} (h : ∀ r, r < R → S r = true → S' r = true) : unseen S' R ≤ unseen S R := sumB_le fun r hr => by
  cases e : S r
  · split <;> simp
  · rw [if_pos (h r hr e)]; omega
theorem unseen_add {S : Nat → Bool} : ∀ {R r : Nat}, r < R → S r = false → unseen (addS S r) R + 1 = unseen S R
  | 0, r, h, _ => absurd h (by omega)
  | R + 1, r, h, hs => by
    unfold unseen
    rw [sumB, sumB]
    rcases Nat.lt_or_ge r R with h1 | h1
    · have ih := unseen_add h1 hs
      unfold unseen at ih
      have : addS S r R = S R := if_neg (by omega)
      rw [this]
      omega
    · obtain rfl : r = R := by omega
      rw [addS_same, if_pos rfl, if_neg (by rw [hs]; decide)]
      have : sumB (fun q => if addS S r q = true then 0 else 1) r = sumB (fun q => if S q = true then 0 else 1) r := sumB_congr fun q hq => by
        have : addS S r q = S q := if_neg (by omega)
        rw [this]
      omega
theorem unseen_none (R : Nat) : unseen (fun _ => false) R ≤ R := by
  unfold unseen
  induction R with
  | zero => exact Nat.le_refl _
  | succ R ih => rw [sumB]; simp only [Bool.false_eq_true, if_false] at ih ⊢; omega
def ptr (b : Nat) : Value := .pointer (some ⟨b, 0, none⟩)
/-- what does not change while find works: bg the graph's box, bs the box of the map ms, bm the matching's box with the rows bl and br, bf the closure's box -/
structure FW (B : Nat) (w : World) (g : GrD) (bg bs bm bf bl br ms L R : Nat) : Prop where
  gr : ∃ v2, w.heap[bg]? = some (.cells #[.int .i64 g.left, .int .i64 g.right, v2] 24 (0, 0)) ∧ IsEdges w (NB [ms, bl, br]) v2 g.edges
  sb : w.heap[bs]? = some (.cells #[.map (some ms)] 49 (0, 0))
  mb : w.heap[bm]? = some (.cells #[.slice (some ⟨bl, 0, none⟩) L L, .slice (some ⟨br, 0, none⟩) R R] 54 (0, 0))
  fb : w.heap[bf]? = some (.cells #[.func (.func 35) #[] #[ptr bg, ptr bs, ptr bm, ptr bf]] 62 (0, 0))
  ng : bg ∉ [ms, bl, br]
  ns : bs ∉ [ms, bl, br]
  nm : bm ∉ [ms, bl, br]
  nf : bf ∉ [ms, bl, br]
  ne : ms ≠ bl ∧ ms ≠ br ∧ bl ≠ br
  base : B ≤ ms ∧ B ≤ bl ∧ B ≤ br
/-- what changes: the map of what is seen, the two rows -/
structure DW (w : World) (bl br ms L R n : Nat) (S : Int → Bool) (lf rf : Nat → Int) : Prop where
  set : SetB Try.prog 3 4 .i64 w ms n S
  left : w.rowIs bl 3 L (fun i => .int .i64 (lf i))
  right : w.rowIs br 3 R (fun i => .int .i64 (rf i))
  cnt : n + unseen (Sn S) R ≤ R
/-- but the blocks of l all is as it was, and nothing below B has changed -/
structure KB (B : Nat) (l : List Nat) (w w' : World) : Prop where
  kp : Kp l w w'
  bel : Below B w w'
section
variable {B : Nat} {w w' w'' : World} {l : List Nat} {g : GrD} {bg bs bm bf bl br ms L R n b : Nat} {S : Int → Bool} {lf rf lf' rf' : Nat → Int} {o : Obj} {v : Value}
theorem KB.refl (B : Nat) (l : List Nat) (w : World) : KB B l w w := ⟨Kp.refl l w, Below.refl B w⟩
theorem KB.trans (h : KB B l w w') (k : KB B l w' w'') : KB B l w w'' := ⟨h.kp.trans k.kp, h.bel.trans k.bel⟩
theorem KB.drew (h : KB B l w w') : KB B l w w'.drew := ⟨h.kp.drew, h.bel.drew⟩
theorem KB.setCell (h : KB B l w w') (hb : b ∈ l) (hB : B ≤ b) (j : Nat) (u : Value) : KB B l w (w'.setCell ⟨b, j, none⟩ u) := ⟨h.kp.setCell hb j u, h.bel.setCell hB u⟩
theorem KB.grown (hg : w.grownBy w' (some b)) (hb : b ∈ l) (hB : B ≤ b) (hw : B ≤ w.heap.size) : KB B l w w' := ⟨⟨hg.size, fun k hk hl => hg.block k hk fun e => hl ((Option.some.inj e) ▸ hb)⟩, (Below.refl B w).grown hg hw fun _ e => (Option.some.inj e) ▸ hB⟩
theorem FW.kp (h : FW B w g bg bs bm bf bl br ms L R) (k0 : KB B [ms, bl, br] w w') : FW B w' g bg bs bm bf bl br ms L R := by
  have k := k0.kp
  obtain ⟨⟨v2, h1, h2⟩, h3, h4, h5, n1, n2, n3, n4, n5, n6⟩ := h
  exact ⟨⟨v2, (k.block _ (lt_heap h1) n1).trans h1, IsSl.kp h2 k⟩, (k.block _ (lt_heap h3) n2).trans h3, (k.block _ (lt_heap h4) n3).trans h4, (k.block _ (lt_heap h5) n4).trans h5, n1, n2, n3, n4, n5, n6⟩
theorem DW.below (h : DW w bl br ms L R n S lf rf) (hb : Below w.heap.size w w') : DW w' bl br ms L R n S lf rf :=
  ⟨h.set.below hb (Nat.le_refl _), h.left.of_block (hb.block _ h.left.lt), h.right.of_block (hb.block _ h.right.lt), h.cnt⟩
theorem Kp.ofBelow {l : List Nat} (hb : Below w.heap.size w w') : Kp l w w' := ⟨hb.size, fun k hk _ => hb.block k hk⟩
theorem DW.row_l (h : DW w bl br ms L R n S lf rf) (hne : bl ≠ br) (hms : ms ≠ bl) {a : Nat} {x : Int} : DW (w.setCell ⟨bl, a, none⟩ (.int .i64 x)) bl br ms L R n S (upd lf a x) rf :=
  ⟨h.set.set hms.symm _ _, (h.left.set a _).congr fun i _ => by unfold upd; split <;> rfl, h.right.setOther (a := ⟨bl, a, none⟩) hne.symm _, h.cnt⟩
theorem DW.row_r (h : DW w bl br ms L R n S lf rf) (hne : bl ≠ br) (hms : ms ≠ br) {a : Nat} {x : Int} : DW (w.setCell ⟨br, a, none⟩ (.int .i64 x)) bl br ms L R n S lf (upd rf a x) :=
  ⟨h.set.set hms.symm _ _, h.left.setOther (a := ⟨br, a, none⟩) hne _, (h.right.set a _).congr fun i _ => by unfold upd; split <;> rfl, h.cnt⟩
theorem DW.grow {r : Nat} (h : DW w bl br ms L R n S lf rf) (hr : r < R) (hs : S (r : Int) = false) (hset : SetB Try.prog 3 4 .i64 w' ms (n + 1) (updS S (r : Int) true)) (hg : w.grownBy w' (some ms)) (h1 : ms ≠ bl) (h2 : ms ≠ br) : DW w' bl br ms L R (n + 1) (updS S (r : Int) true) lf rf :=
  ⟨hset, h.left.of_block (hg.block _ h.left.lt fun e => h1 (Option.some.inj e).symm), h.right.of_block (hg.block _ h.right.lt fun e => h2 (Option.some.inj e).symm), by
    have := unseen_add (S := Sn S) hr hs
    rw [Sn_upd]
    have := h.cnt
    omega⟩
theorem KB.ofB (hf : FW B w g bg bs bm bf bl br ms L R) (hd : DW w bl br ms L R n S lf rf) (hb : Below w.heap.size w w') : KB B l w w' :=
  ⟨Kp.ofBelow hb, hb.mono (by have := hf.base.2.1; have := hd.left.lt; omega)⟩
end
/-- what augment leaves -/
def AugR (E : Nat → Nat → Bool) (L R : Nat) (S : Int → Bool) (v : Nat) (lf rf : Nat → Int) (ok : Bool) (S' : Int → Bool) (lf' rf' : Nat → Int) : Prop :=
  (ok = true ∧ AugY E L R (Sn S) v lf rf lf' rf') ∨ (ok = false ∧ lf' = lf ∧ rf' = rf ∧ AugN E L R rf (Sn S) (Sn S') v)
/-- what augment asks -/
structure AP (B : Nat) (w : World) (g : GrD) (bg bs bm bf bl br ms L R n : Nat) (S : Int → Bool) (lf rf : Nat → Int) (v : Nat) : Prop where
  fw : FW B w g bg bs bm bf bl br ms L R
  dw : DW w bl br ms L R n S lf rf
  inv : MInv (edB g) L R lf rf
  lt : v < L
  own : 0 ≤ lf v → ∃ q : Nat, lf v = (q : Int) ∧ q < R ∧ Sn S q = true
def AugW (B : Nat) (w : World) (g : GrD) (bl br ms L R : Nat) (S : Int → Bool) (lf rf : Nat → Int) (v : Nat) (e : Ending) (w' : World) : Prop :=
  ∃ ok n' S' lf' rf', e = .returned (.bool ok) ∧ KB B [ms, bl, br] w w' ∧ DW w' bl br ms L R n' S' lf' rf' ∧ AugR (edB g) L R S v lf rf ok S' lf' rf'
/-- the neighbours as numbers -/
structure Nbs (g : GrD) (R v : Nat) (l : List (Int × Int)) (rn : Nat → Nat) : Prop where
  val : ∀ j, j < l.length → (nthE l j).2 = (rn j : Int)
  lt : ∀ j, j < l.length → rn j < R
  ed : ∀ j, j < l.length → edB g v (rn j) = true
  all : ∀ q, edB g v q = true → ∃ j, j < l.length ∧ rn j = q
theorem nbs_of {g : GrD} {L R : Nat} (hg : GOk g L R) (v : Nat) : ∃ rn, Nbs g R v (ofV g.edges v) rn := by
  have key : ∀ j, j < (ofV g.edges v).length → nthE (ofV g.edges v) j ∈ g.edges ∧ (nthE (ofV g.edges v) j).1 = (v : Int) := fun j hj => by
    have := mem_ofV.1 (List.getElem_mem hj)
    rw [nthE_get hj]; exact this
  have rng : ∀ e, e ∈ g.edges → 0 ≤ e.2 ∧ e.2 < R := fun e he => by
    obtain ⟨i, hi, rfl⟩ := List.mem_iff_getElem.1 he
    have := hg.rng i hi
    rw [nthE_get hi] at this
    exact this.2.2
  have val : ∀ j, j < (ofV g.edges v).length → (nthE (ofV g.edges v) j).2 = (((nthE (ofV g.edges v) j).2.toNat : Nat) : Int) := fun j hj => by
    have := rng _ (key j hj).1
    omega
  refine ⟨fun j => (nthE (ofV g.edges v) j).2.toNat, val, fun j hj => ?_, fun j hj => ?_, fun q hq => ?_⟩
  · have := rng _ (key j hj).1
    omega
  · unfold edB
    rw [List.contains_iff_mem, ← val j hj, ← (key j hj).2]
    exact (key j hj).1
  · unfold edB at hq
    rw [List.contains_iff_mem] at hq
    have : ((v : Int), (q : Int)) ∈ ofV g.edges v := mem_ofV.2 ⟨hq, rfl⟩
    obtain ⟨j, hj, e⟩ := List.mem_iff_getElem.1 this
    refine ⟨j, hj, ?_⟩
    rw [nthE_get hj, e]
    show (q : Int).toNat = q
    omega
end Go.Proofs.Ytolappaekjdcgaa
