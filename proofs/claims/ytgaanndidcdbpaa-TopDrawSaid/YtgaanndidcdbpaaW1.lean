/- The beacon of a draw: commitments are taken, reveals and opened shares too, all numbers are known at the end. -/
import Derived.Test.YtgaanndidcdbpaaZM
import Derived.BigQuiet
namespace Go.Proofs.Ytgaanndidcdbpaa
open Go.RowKit Go.Shelf

theorem comTo_none' {l : List ComD} {c : Int} : ∀ {k : Nat}, (∀ i, i < k → (comN l i).club ≠ c) → comTo l k c = none
  | 0, _ => rfl
  | k + 1, h => by
    show (if c = (comN l k).club then some (comN l k) else comTo l k c) = none
    rw [if_neg (fun e => h k (by omega) e.symm), comTo_none' (fun i hi => h i (by omega))]
section
variable {cl : List Int} {t : Int} {of : Nat} {ps : List (List Nat)} {b : BeaD}
/-- what the polynomials of a draw are -/
structure Po (cl : List Int) (t : Int) (of : Nat) (ps : List (List Nat)) : Prop where
  new : NewOk cl t of
  len : ps.length = cl.length
  pl : ∀ k, k < cl.length → ((polN ps k).length : Int) = t
  lt : ∀ k, k < cl.length → ∀ x ∈ polN ps k, x < 1152921504606845789
theorem Po.pok (h : Po cl t of ps) {k : Nat} (hk : k < cl.length) : allD coefOk (polN ps k) = true := by
  have h1 := h.pl k hk
  have h2 := h.new.t1
  have h3 := h.new.tn
  have h4 := h.new.n24
  unfold allD lenOk
  rw [decide_eq_true (show 1 ≤ (polN ps k).length by omega), decide_eq_true (show (polN ps k).length ≤ 24 by omega), show (polN ps k).all coefOk = true from List.all_eq_true.2 fun x hx => decide_eq_true (h.lt k hk x hx)]
  rfl
theorem stB_new (hn : NewOk cl t of) : chkD (stB cl t of ps 0) = 0 := by
  refine chk_yes fun i _ => ?_
  match i with
  | 0 => exact decide_eq_true hn
  | 1 => rfl
  | 2 => rfl
  | 3 => show (doneB _ || decide (0 + 0 = 0)) = true; simp
  | 4 => rfl
  | 5 => rfl
  | 6 => rfl
  | _ + 7 => rfl
theorem stB_app {k : Nat} : ({stB cl t of ps k with coms := (stB cl t of ps k).coms ++ [polC cl ps k]} : BeaD) = stB cl t of ps (k + 1) := by
  unfold stB
  rw [List.range_succ, List.map_append]; rfl
theorem Po.comB (h : Po cl t of ps) {k : Nat} (hk : k < cl.length) : comB (stB cl t of ps k) (polC cl ps k) = true := by
  have e : polC cl ps k = ⟨nthI cl k, (polN ps k).map (pw 4)⟩ := by unfold polC powersD; rw [if_pos (h.pok hk)]
  have hm : memB (stB cl t of ps k) (nthI cl k) = true := by
    unfold memB placeD
    rw [show (stB cl t of ps k).clubs = cl from rfl, placeTo_at h.new.club (Nat.le_refl _) hk]; rfl
  have hal := all_pw (h.pok hk)
  unfold allD at hal
  rw [Bool.and_eq_true] at hal
  rw [e]
  show (memB (stB cl t of ps k) (nthI cl k) && (decide ((((polN ps k).map (pw 4)).length : Int) = t) && ((polN ps k).map (pw 4)).all elOk)) = true
  rw [hm, hal.2, List.length_map, decide_eq_true (h.pl k hk)]; rfl
theorem Po.free (h : Po cl t of ps) {k : Nat} (hk : k < cl.length) : (comAt (stB cl t of ps k) (polC cl ps k).club).isSome = false := by
  unfold comAt
  rw [comTo_none' fun i hi => ?_]
  · rfl
  · rw [stB_len] at hi
    rw [stB_com hi]
    show nthI cl i ≠ nthI cl k
    intro e
    have := cl_inj h.new.club (by omega) hk e
    omega
theorem Po.chk (h : Po cl t of ps) : ∀ k, k ≤ cl.length → chkD (stB cl t of ps k) = 0
  | 0, _ => stB_new h.new
  | k + 1, hk => by
    rw [← stB_app]
    exact chk_com (Po.chk h k (by omega)) (h.free (by omega)) (h.comB (by omega))
theorem Po.st (h : Po cl t of ps) : St cl t of ps := ⟨h.new, h.len, h.pl, fun _ hk => h.pok hk, h.chk _ (Nat.le_refl _)⟩
theorem Po.commit (h : Po cl t of ps) {k : Nat} (hk : k < cl.length) : commitD (stB cl t of ps k) (polC cl ps k) = (stB cl t of ps (k + 1), 0) := by
  unfold commitD
  rw [if_pos (h.chk k (by omega)), h.free hk, h.comB hk, stB_app]; rfl
theorem Po.powers (h : Po cl t of ps) {k : Nat} (hk : k < cl.length) : (powersD (polN ps k)).2 = 0 := by
  unfold powersD; rw [if_pos (h.pok hk)]
theorem Po.newD (h : Po cl t of ps) : newD cl t of = (stB cl t of ps 0, 0) := by
  unfold Go.Proofs.Ytgaanndidcdbpaa.newD
  rw [if_pos (show newB cl t of = true from decide_eq_true h.new)]; rfl
/-- a club that has not revealed reveals -/
theorem Ov.revD (h : Ov cl t of ps b) (hs : St cl t of ps) {c : Nat} (hc : c < cl.length) (hn : hasR b (nthI cl c) = false) : revealD b (rvO cl ps c) = ({b with revs := b.revs ++ [rvO cl ps c]}, 0) := by
  unfold revealD
  rw [if_pos h.chk, h.done]
  have e : revB b (rvO cl ps c) = true := by unfold rvO; rw [h.revB_eq hs hc]; simp
  rw [e]
  show (if hasR b (nthI cl c) = true then _ else _) = _
  rw [hn]; rfl
theorem Ov.opnD (h : Ov cl t of ps b) (hs : St cl t of ps) {c f : Nat} (hc : c < cl.length) (hf : f < cl.length) (hcf : c ≠ f) (hn : hasO b (nthI cl c) (nthI cl f) = false) : openD b (opO cl ps c f) = ({b with opns := b.opns ++ [opO cl ps c f]}, 0) := by
  unfold openD
  rw [if_pos h.chk, h.done]
  have e : opnB b (opO cl ps c f) = true := by unfold opO; rw [h.opnB_eq hs hc hf]; simp [hcf]
  rw [e]
  show (if hasO b (nthI cl c) (nthI cl f) = true then _ else _) = _
  rw [hn]; rfl
theorem hasR_opn {o : OpnD} {c : Int} : hasR {b with opns := b.opns ++ [o]} c = hasR b c := rfl
theorem hasO_rev {r : RevD} {c f : Int} : hasO {b with revs := b.revs ++ [r]} c f = hasO b c f := rfl
/-- the clubs from m on are done -/
structure Dr (cl : List Int) (t : Int) (of : Nat) (ps : List (List Nat)) (m : Nat) (b : BeaD) : Prop where
  ov : Ov cl t of ps b
  kn : ∀ c, m ≤ c → c < cl.length → (numberD b (nthI cl c)).2 = true
  nr : ∀ c, c < m → c < cl.length → hasR b (nthI cl c) = false
  no : ∀ c, c < m → c < cl.length → ∀ o ∈ b.opns, o.club ≠ nthI cl c
theorem Dr.start (hs : St cl t of ps) : Dr cl t of ps cl.length (stB cl t of ps cl.length) := ⟨Ov.start hs, fun c h1 h2 => absurd h2 (by omega), fun c _ _ => rfl, fun c _ _ o ho => (by cases ho)⟩
theorem Dr.rev (hs : St cl t of ps) {m : Nat} (h : Dr cl t of ps (m + 1) b) (hm : m < cl.length) : revealD b (rvO cl ps m) = ({b with revs := b.revs ++ [rvO cl ps m]}, 0) ∧ Dr cl t of ps m {b with revs := b.revs ++ [rvO cl ps m]} := by
  have hn := h.nr m (by omega) hm
  have ho := h.ov.addR hs hm hn
  refine ⟨h.ov.revD hs hm hn, ho, fun c h1 h2 => ?_, fun c h1 h2 => ?_, fun c h1 h2 => h.no c (by omega) h2⟩
  · rcases Nat.lt_or_ge m c with q | q
    · exact known_rev h.ov.chk ho.chk _ (h.kn c (by omega) h2)
    · obtain rfl : c = m := by omega
      refine hasR_known ho.chk ?_
      rw [hasR_add]
      show (_ || decide (nthI cl c = nthI cl c)) = true
      simp
  · rw [hasR_add, h.nr c (by omega) h2, Bool.false_or]
    refine decide_eq_false fun e => ?_
    have := cl_inj hs.new.club hm h2 e
    omega
/-- club m opens: n shares are there, of clubs before k -/
structure Dq (cl : List Int) (t : Int) (of : Nat) (ps : List (List Nat)) (m k n : Nat) (b : BeaD) : Prop where
  ov : Ov cl t of ps b
  kn : ∀ c, m < c → c < cl.length → (numberD b (nthI cl c)).2 = true
  nr : ∀ c, c ≤ m → c < cl.length → hasR b (nthI cl c) = false
  no : ∀ c, c < m → c < cl.length → ∀ o ∈ b.opns, o.club ≠ nthI cl c
  sh : (shL b.opns (nthI cl m)).length = n
  fr : ∀ f, k ≤ f → f < cl.length → hasO b (nthI cl m) (nthI cl f) = false
  cn : n + (if m < k then 1 else 0) = k
theorem shL_none {l : List OpnD} {c : Int} (h : ∀ o ∈ l, o.club ≠ c) : shL l c = [] := by
  unfold shL
  rw [List.filter_eq_nil_iff.2 fun o ho => by simpa using h o ho]; rfl
theorem hasO_none {c f : Int} (h : ∀ o ∈ b.opns, o.club ≠ c) : hasO b c f = false := by
  unfold hasO
  refine List.any_eq_false.2 fun i hi => ?_
  have := h _ (opnN_mem (List.mem_range.1 hi))
  simp [this]
theorem Dr.open_ {m : Nat} (h : Dr cl t of ps (m + 1) b) (hm : m < cl.length) : Dq cl t of ps m 0 0 b := by
  have hn := h.no m (by omega) hm
  refine ⟨h.ov, fun c h1 h2 => h.kn c (by omega) h2, fun c h1 h2 => h.nr c (by omega) h2, fun c h1 h2 => h.no c (by omega) h2, by rw [shL_none hn]; rfl, fun f _ _ => hasO_none hn, by rw [if_neg (by omega)]⟩
theorem Dq.skip {m n : Nat} (h : Dq cl t of ps m m n b) : Dq cl t of ps m (m + 1) n b := by
  have := h.cn
  rw [if_neg (by omega)] at this
  exact ⟨h.ov, h.kn, h.nr, h.no, h.sh, fun f h1 h2 => h.fr f (by omega) h2, by rw [if_pos (by omega)]; omega⟩
theorem shL_app {l : List OpnD} {o : OpnD} : (shL (l ++ [o]) o.club).length = (shL l o.club).length + 1 := by
  unfold shL
  rw [List.length_map, List.length_map, List.filter_append, List.length_append]
  simp
theorem Dq.opn (hs : St cl t of ps) {m k n : Nat} (h : Dq cl t of ps m k n b) (hm : m < cl.length) (hk : k < cl.length) (hne : m ≠ k) : openD b (opO cl ps m k) = ({b with opns := b.opns ++ [opO cl ps m k]}, 0) ∧ Dq cl t of ps m (k + 1) (n + 1) {b with opns := b.opns ++ [opO cl ps m k]} := by
  have hn := h.fr k (Nat.le_refl _) hk
  have ho := h.ov.addO hs hm hk hne hn
  refine ⟨h.ov.opnD hs hm hk hne hn, ho, fun c h1 h2 => known_opn h.ov.chk ho.chk _ (h.kn c h1 h2), fun c h1 h2 => h.nr c h1 h2, fun c h1 h2 o hm' => ?_, ?_, fun f h1 h2 => ?_, ?_⟩
  · rcases List.mem_append.1 hm' with q | q
    · exact h.no c h1 h2 o q
    · rw [show o = opO cl ps m k by simpa using q]
      intro e
      have := cl_inj hs.new.club hm h2 e
      omega
  · have := h.sh
    show (shL (b.opns ++ [opO cl ps m k]) (opO cl ps m k).club).length = n + 1
    rw [shL_app]; exact congrArg (· + 1) this
  · rw [hasO_add, h.fr f (by omega) h2, Bool.false_or]
    have e2 : decide ((opO cl ps m k).frm = nthI cl f) = false := decide_eq_false fun e => by
      have := cl_inj hs.new.club hk h2 e
      omega
    rw [e2, Bool.and_false]
  · have := h.cn
    by_cases q : m < k
    · rw [if_pos q] at this; rw [if_pos (by omega)]; omega
    · rw [if_neg q] at this; rw [if_neg (by omega)]; omega
theorem Dq.done {m k n : Nat} (h : Dq cl t of ps m k n b) (hm : m < cl.length) (ht : t ≤ (n : Int)) : Dr cl t of ps m b := by
  refine ⟨h.ov, fun c h1 h2 => ?_, fun c h1 h2 => h.nr c (by omega) h2, h.no⟩
  rcases Nat.lt_or_ge m c with q | q
  · exact h.kn c q h2
  · obtain rfl : c = m := by omega
    rw [known_iff h.ov.chk, h.sh, h.ov.th]
    exact .inr ht
theorem Dq.all (hs : St cl t of ps) {m n : Nat} (h : Dq cl t of ps m cl.length n b) (hm : m < cl.length) : t ≤ (n : Int) := by
  have := h.cn
  rw [if_pos hm] at this
  have := hs.new.tn
  omega
theorem Dr.num (hs : St cl t of ps) (h : Dr cl t of ps 0 b) : numD b = (wantTo of ps cl.length, 0) := by
  rw [h.ov.numD_eq hs, missL_known fun c hc => ?_]
  · rfl
  · rw [h.ov.kl] at hc ⊢
    exact h.kn c (by omega) hc
end
end Go.Proofs.Ytgaanndidcdbpaa
