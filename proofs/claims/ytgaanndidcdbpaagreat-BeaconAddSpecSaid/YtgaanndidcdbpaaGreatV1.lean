/- Plain: the reference's Check is Check. -/
import Derived.Test.YtgaanndidcdbpaaGreatU5
import Derived.Test.YtgaanndidcdbpaaGreatZM
namespace Go.Proofs.YtgaanndidcdbpaaGreat
open Go.RowKit Go.Shelf

def dsC (b : BeaD) (k j : Nat) : Bool := (List.range j).all fun i => decide ((comN b.coms i).club ≠ (comN b.coms k).club)
def dsR (b : BeaD) (k j : Nat) : Bool := (List.range j).all fun i => decide ((revN b.revs i).club ≠ (revN b.revs k).club)
def dsO (b : BeaD) (k j : Nat) : Bool := (List.range j).all fun i => decide ((opnN b.opns i).club ≠ (opnN b.opns k).club) || decide ((opnN b.opns i).frm ≠ (opnN b.opns k).frm)
def okC (b : BeaD) (k : Nat) : Bool := comB b (comN b.coms k) && dsC b k k
def okR (b : BeaD) (k : Nat) : Bool := rvR b (revN b.revs k) && dsR b k k
def okO (b : BeaD) (k : Nat) : Bool := opR b (opnN b.opns k) && dsO b k k
def G0 (b : BeaD) : Bool := newB b.clubs b.thr b.rng && decide (b.coms.length ≤ b.clubs.length)
def G1 (b : BeaD) : Bool := G0 b && (List.range b.coms.length).all (okC b)
def G2 (b : BeaD) : Bool := G1 b && ((decide (b.revs.length + b.opns.length = 0) || complR b) && (decide (b.revs.length ≤ b.clubs.length) && decide (b.opns.length ≤ b.clubs.length * b.clubs.length)))
def G3 (b : BeaD) : Bool := G2 b && (List.range b.revs.length).all (okR b)
def G4 (b : BeaD) : Bool := G3 b && (List.range b.opns.length).all (okO b)
theorem inj_of_ds {X : Type} {n : Nat} (f : Nat → X) (h : ∀ k, k < n → ∀ i, i < k → f i ≠ f k) : ∀ i j, i < n → j < n → f i = f j → i = j := fun i j hi hj e => by
  rcases Nat.lt_trichotomy i j with q | q | q
  · exact absurd e (h j hj i q)
  · exact q
  · exact absurd e.symm (h i hi j q)
/-- with different clubs the first commitment is the last -/
theorem fst_last {b : BeaD} (h : ∀ i j, i < b.coms.length → j < b.coms.length → (comN b.coms i).club = (comN b.coms j).club → i = j) (c : Int) : comAt b c = if 0 ≤ comI b c then some (fstC b c) else none := by
  cases hx : comAt b c with
  | none =>
    rw [if_neg]
    intro h0
    obtain ⟨i, hi, hp⟩ := idxF_has.1 h0
    exact comTo_none hx i hi (by simpa using hp)
  | some x =>
    obtain ⟨i, hi, rfl, hc⟩ := comTo_some hx
    have h0 : 0 ≤ comI b c := idxF_has.2 ⟨i, hi, by simpa using hc⟩
    rw [if_pos h0]
    unfold fstC
    rw [if_pos h0]
    have h1 := idxF_hi (p := fun i => (comN b.coms i).club == c) (n := b.coms.length) rfl h0
    have h2 := idxF_p (p := fun i => (comN b.coms i).club == c) (n := b.coms.length) h0
    have h3 : (comN b.coms (comI b c).toNat).club = c := eq_of_beq h2
    rw [h i (comI b c).toNat hi h1 (by rw [hc, h3])]
theorem revB_first {b : BeaD} (h : ∀ i j, i < b.coms.length → j < b.coms.length → (comN b.coms i).club = (comN b.coms j).club → i = j) (r : RevD) : revB b r = rvR b r := by
  unfold revB rvR
  rw [fst_last h]
  by_cases h0 : 0 ≤ comI b r.club
  · rw [if_pos h0, decide_eq_true h0]; rw [Bool.true_and]
  · rw [if_neg h0, decide_eq_false h0]; rfl
theorem place_first {b : BeaD} (h : clubsTo b.clubs b.clubs.length) (c : Int) (h0 : 0 ≤ idxF (fun i => nthI b.clubs i == c) b.clubs.length) : ((placeD b c).getD 0 : Int) = idxF (fun i => nthI b.clubs i == c) b.clubs.length := by
  have h1 := idxF_hi (p := fun i => nthI b.clubs i == c) (n := b.clubs.length) rfl h0
  have h2 := idxF_p (p := fun i => nthI b.clubs i == c) (n := b.clubs.length) h0
  have h3 : nthI b.clubs (idxF (fun i => nthI b.clubs i == c) b.clubs.length).toNat = c := by simpa using h2
  obtain ⟨k, hk⟩ : ∃ k, k = (idxF (fun i => nthI b.clubs i == c) b.clubs.length).toNat := ⟨_, rfl⟩
  rw [← hk] at h1 h3
  unfold placeD
  rw [← h3, placeTo_at h (Nat.le_refl _) h1]
  show (k : Int) = _
  rw [h3]; omega
theorem opnB_first {b : BeaD} (h : ∀ i j, i < b.coms.length → j < b.coms.length → (comN b.coms i).club = (comN b.coms j).club → i = j) (hc : clubsTo b.clubs b.clubs.length) (o : OpnD) : opnB b o = opR b o := by
  unfold opnB opR
  rw [fst_last h]
  by_cases h0 : 0 ≤ comI b o.club
  · rw [if_pos h0, decide_eq_true h0, Bool.true_and]
    dsimp only
    rw [show memB b o.frm = decide (0 ≤ idxF (fun i => nthI b.clubs i == o.frm) b.clubs.length) from mem_pos]
    by_cases h1 : 0 ≤ idxF (fun i => nthI b.clubs i == o.frm) b.clubs.length
    · have h2 := place_first hc o.frm h1
      rw [decide_eq_true h1]
      congr 4
      rw [Bool.eq_iff_iff, decide_eq_true_eq, ← h2]
      exact ⟨fun e => by have := Nat.eq_of_beq_eq_true e; omega, fun e => by rw [show o.sh.1 = (placeD b o.frm).getD 0 + 1 by omega]; exact Nat.beq_refl _⟩
    · rw [decide_eq_false h1, Bool.false_and, Bool.false_and]
  · rw [if_neg h0, decide_eq_false h0]; rfl
theorem comI_has {b : BeaD} {c : Int} : 0 ≤ comI b c ↔ ∃ i, i < b.coms.length ∧ (comN b.coms i).club = c := by
  unfold comI
  rw [idxF_has]
  constructor
  · rintro ⟨i, h1, h2⟩; exact ⟨i, h1, by simpa using h2⟩
  · rintro ⟨i, h1, h2⟩; exact ⟨i, h1, by simpa using h2⟩
/-- all clubs have committed exactly if there are as many commitments as clubs -/
theorem compl_done {b : BeaD} (hc : clubsTo b.clubs b.clubs.length) (hd : ∀ i j, i < b.coms.length → j < b.coms.length → (comN b.coms i).club = (comN b.coms j).club → i = j) (hm : ∀ i, i < b.coms.length → memB b (comN b.coms i).club = true) :
    complR b = true ↔ b.coms.length = b.clubs.length := by
  have hle := coms_le (b := b) (fun i => (comN b.coms i).club) b.coms.length hd hm
  unfold complR
  rw [List.all_eq_true]
  constructor
  · intro h
    have h' : ∀ i, i < b.clubs.length → ∃ j, j < b.coms.length ∧ (comN b.coms j).club = nthI b.clubs i := fun i hi => comI_has.1 (of_decide_eq_true (h i (List.mem_range.2 hi)))
    have hex : ∀ i, ∃ j, i < b.clubs.length → j < b.coms.length ∧ (comN b.coms j).club = nthI b.clubs i := fun i => by
      by_cases hi : i < b.clubs.length
      · obtain ⟨j, hj⟩ := h' i hi; exact ⟨j, fun _ => hj⟩
      · exact ⟨0, fun hh => absurd hh hi⟩
    have := pigeon b.coms.length b.clubs.length (fun i => (hex i).choose) (fun i hi => ((hex i).choose_spec hi).1) (fun i j hi hj e => by
      have e' : (hex i).choose = (hex j).choose := e
      refine cl_inj hc hi hj ?_
      rw [← ((hex i).choose_spec hi).2, ← ((hex j).choose_spec hj).2, e'])
    omega
  · intro he i hi
    have hi' := List.mem_range.1 hi
    refine decide_eq_true (Classical.byContradiction fun hno => ?_)
    have hnone : ∀ j, j < b.coms.length → (comN b.coms j).club ≠ nthI b.clubs i := fun j hj e => hno (comI_has.2 ⟨j, hj, e⟩)
    have := coms_le (b := b) (fun j => if j < b.coms.length then (comN b.coms j).club else nthI b.clubs i) (b.coms.length + 1) (fun p q hp hq e => ?_) (fun p hp => ?_)
    · omega
    · (try dsimp only at e)
      split at e <;> split at e
      · rename_i h1 h2; exact hd p q h1 h2 e
      · rename_i h1 h2; exact absurd e (hnone p h1)
      · rename_i h1 h2; exact absurd e.symm (hnone q h2)
      · omega
    · (try dsimp only)
      split
      · rename_i h1; exact hm p h1
      · rw [mem_pos]; exact decide_eq_true (idxF_has.2 ⟨i, hi', by simp⟩)
theorem opns_max {b : BeaD} (f : Nat → Int × Int) (n : Nat) (hd : ∀ i j, i < n → j < n → f i = f j → i = j) (hm : ∀ i, i < n → memB b (f i).1 = true ∧ memB b (f i).2 = true) : n ≤ b.clubs.length * b.clubs.length := by
  have hp : ∀ i, i < n → (placeD b (f i).1).getD 0 < b.clubs.length ∧ (placeD b (f i).2).getD 0 < b.clubs.length ∧ nthI b.clubs ((placeD b (f i).1).getD 0) = (f i).1 ∧ nthI b.clubs ((placeD b (f i).2).getD 0) = (f i).2 := fun i hi => by
    obtain ⟨k, h1, h2, h3⟩ := memB_place (hm i hi).1
    obtain ⟨m, h4, h5, h6⟩ := memB_place (hm i hi).2
    rw [h2, h5]; exact ⟨h1, h4, h3, h6⟩
  refine pigeon _ n (fun i => (placeD b (f i).1).getD 0 * b.clubs.length + (placeD b (f i).2).getD 0) (fun i hi => ?_) (fun i j hi hj e => ?_)
  · obtain ⟨h1, h2, -⟩ := hp i hi
    have := Nat.mul_le_mul_right b.clubs.length (Nat.succ_le_of_lt h1)
    rw [Nat.succ_mul] at this
    show (placeD b (f i).1).getD 0 * b.clubs.length + _ < _
    omega
  · obtain ⟨h1, h2, h3, h4⟩ := hp i hi
    obtain ⟨h5, h6, h7, h8⟩ := hp j hj
    have e' : (placeD b (f i).1).getD 0 * b.clubs.length + (placeD b (f i).2).getD 0 = (placeD b (f j).1).getD 0 * b.clubs.length + (placeD b (f j).2).getD 0 := e
    have hn : 0 < b.clubs.length := by omega
    have hdv : ∀ a c : Nat, c < b.clubs.length → (a * b.clubs.length + c) / b.clubs.length = a := fun a c hc => by
      rw [Nat.mul_comm, Nat.mul_add_div hn, Nat.div_eq_of_lt hc, Nat.add_zero]
    have e1 : (placeD b (f i).1).getD 0 = (placeD b (f j).1).getD 0 := by rw [← hdv (placeD b (f i).1 |>.getD 0) _ h2, e', hdv _ _ h6]
    have e2 : (placeD b (f i).2).getD 0 = (placeD b (f j).2).getD 0 := by rw [e1] at e'; omega
    exact hd i j hi hj (Prod.ext (by rw [← h3, ← h7, e1]) (by rw [← h4, ← h8, e2]))
theorem distB_of {X : Type} [DecidableEq X] {f : Nat → X} : ∀ {n : Nat}, (∀ i j, i < n → j < n → f i = f j → i = j) → distB f n = true
  | 0, _ => by unfold distB; rfl
  | n + 1, h => distB_snoc (distB_of (n := n) (fun i j hi hj => h i j (by omega) (by omega))) (fun _ _ => rfl) (fun i hi e => by have := h n i (by omega) (by omega) e; omega)
theorem any_none_not {n : Nat} {p : Nat → Bool} (h : ∀ i, i < n → p i = true) : (!(List.range n).any (fun i => !p i)) = true := by
  rw [Bool.not_eq_true', List.any_eq_false]
  intro i hi
  rw [h i (List.mem_range.1 hi)]; simp
/-- the reference's Check -/
theorem chk_ref (b : BeaD) : chkD b = if G4 b = true then 0 else 240 := by
  by_cases h : chkD b = 0
  · have hC := ChkB.of h
    have hd := hC.comD
    have hcl := hC.new.club
    have g0 : G0 b = true := by
      unfold G0
      rw [show newB b.clubs b.thr b.rng = true from chk8 h 0 (by omega), decide_eq_true (coms_max h)]; rfl
    have g1 : G1 b = true := by
      unfold G1
      rw [g0, Bool.true_and, List.all_eq_true]
      intro k hk
      have hk' := List.mem_range.1 hk
      unfold okC dsC
      rw [hC.com k hk', Bool.true_and, List.all_eq_true]
      intro i hi
      have hi' := List.mem_range.1 hi
      exact decide_eq_true fun e => by have := hd i k (by omega) hk' e; omega
    have hmr : ∀ i, i < b.revs.length → memB b (revN b.revs i).club = true := fun i hi => by
      have := hC.rev i hi
      unfold revB at this
      split at this
      · cases this
      · simp only [Bool.and_eq_true] at this; exact this.1
    have hmo : ∀ i, i < b.opns.length → memB b (opnN b.opns i).club = true ∧ memB b (opnN b.opns i).frm = true := fun i hi => by
      obtain ⟨_, f, _, hm, hp, _⟩ := opnB_says (hC.opn i hi)
      exact ⟨hm, by unfold memB; rw [hp]; rfl⟩
    have g2 : G2 b = true := by
      unfold G2
      rw [g1, Bool.true_and, decide_eq_true (coms_le (b := b) (fun i => (revN b.revs i).club) _ hC.revD hmr), decide_eq_true (opns_max (b := b) (fun i => ((opnN b.opns i).club, (opnN b.opns i).frm)) b.opns.length (fun i j hi hj e => hC.opnD i j hi hj (congrArg Prod.fst e) (congrArg Prod.snd e)) hmo)]
      rcases hC.done with hdn | ⟨hr, ho⟩
      · rw [(compl_done hcl hd (fun i hi => (comB_mem (hC.com i hi)).1)).2 ((done_len h).1 hdn)]; simp
      · rw [hr, ho]; rfl
    have g3 : G3 b = true := by
      unfold G3
      rw [g2, Bool.true_and, List.all_eq_true]
      intro k hk
      have hk' := List.mem_range.1 hk
      unfold okR dsR
      rw [← revB_first hd, hC.rev k hk', Bool.true_and, List.all_eq_true]
      intro i hi
      have hi' := List.mem_range.1 hi
      exact decide_eq_true fun e => by have := hC.revD i k (by omega) hk' e; omega
    have g4 : G4 b = true := by
      unfold G4
      rw [g3, Bool.true_and, List.all_eq_true]
      intro k hk
      have hk' := List.mem_range.1 hk
      unfold okO dsO
      rw [← opnB_first hd hcl, hC.opn k hk', Bool.true_and, List.all_eq_true]
      intro i hi
      have hi' := List.mem_range.1 hi
      rw [Bool.or_eq_true, decide_eq_true_eq, decide_eq_true_eq]
      by_cases e : (opnN b.opns i).club = (opnN b.opns k).club
      · exact .inr fun e2 => by have := hC.opnD i k (by omega) hk' e e2; omega
      · exact .inl e
    rw [h, if_pos g4]
  · have h240 : chkD b = 240 := by unfold chkD at h ⊢; split at h; exact absurd rfl h; rename_i hh; rw [if_neg hh]
    rw [h240, if_neg]
    intro g4
    refine h (chk_yes ?_)
    unfold G4 G3 G2 G1 G0 at g4
    simp only [Bool.and_eq_true, List.all_eq_true, List.mem_range, decide_eq_true_eq] at g4
    obtain ⟨⟨⟨⟨⟨hn, hcc⟩, hok⟩, hdn, hrl, hol⟩, hrv⟩, hop⟩ := g4
    have hcl : clubsTo b.clubs b.clubs.length := (of_decide_eq_true hn : NewOk _ _ _).club
    have hok' : ∀ k, k < b.coms.length → comB b (comN b.coms k) = true ∧ ∀ i, i < k → (comN b.coms i).club ≠ (comN b.coms k).club := fun k hk => by
      have := hok k hk
      unfold okC dsC at this
      simp only [Bool.and_eq_true, List.all_eq_true, List.mem_range, decide_eq_true_eq] at this
      exact this
    have hd := inj_of_ds (n := b.coms.length) (fun i => (comN b.coms i).club) (fun k hk i hi => (hok' k hk).2 i hi)
    have hrv' : ∀ k, k < b.revs.length → rvR b (revN b.revs k) = true ∧ ∀ i, i < k → (revN b.revs i).club ≠ (revN b.revs k).club := fun k hk => by
      have := hrv k hk
      unfold okR dsR at this
      simp only [Bool.and_eq_true, List.all_eq_true, List.mem_range, decide_eq_true_eq] at this
      exact this
    have hop' : ∀ k, k < b.opns.length → opR b (opnN b.opns k) = true ∧ ∀ i, i < k → ((opnN b.opns i).club, (opnN b.opns i).frm) ≠ ((opnN b.opns k).club, (opnN b.opns k).frm) := fun k hk => by
      have := hop k hk
      unfold okO dsO at this
      simp only [Bool.and_eq_true, List.all_eq_true, List.mem_range, Bool.or_eq_true, decide_eq_true_eq] at this
      refine ⟨this.1, fun i hi e => ?_⟩
      injection e with e1 e2
      rcases this.2 i hi with q | q
      · exact q e1
      · exact q e2
    have hdist := distB_of hd
    intro i hi
    rcases (by omega : i = 0 ∨ i = 1 ∨ i = 2 ∨ i = 3 ∨ i = 4 ∨ i = 5 ∨ i = 6 ∨ i = 7) with rfl | rfl | rfl | rfl | rfl | rfl | rfl | rfl
    · exact hn
    · exact hdist
    · exact any_none_not fun k hk => (hok' k hk).1
    · show (doneB b || decide (b.revs.length + b.opns.length = 0)) = true
      rw [Bool.or_eq_true, decide_eq_true_eq]
      rw [Bool.or_eq_true, decide_eq_true_eq] at hdn
      rcases hdn with q | q
      · exact .inr q
      · refine .inl ?_
        have hl := (compl_done hcl hd (fun i hi => (comB_mem (hok' i hi).1).1)).1 q
        unfold doneB
        unfold distB at hdist
        rw [decide_eq_true_eq] at hdist ⊢
        rw [hdist, hl]
    · exact distB_of (inj_of_ds (n := b.revs.length) (fun i => (revN b.revs i).club) (fun k hk i hi => (hrv' k hk).2 i hi))
    · exact distB_of (inj_of_ds (n := b.opns.length) (fun i => ((opnN b.opns i).club, (opnN b.opns i).frm)) (fun k hk i hi => (hop' k hk).2 i hi))
    · exact any_none_not fun k hk => by rw [revB_first hd]; exact (hrv' k hk).1
    · exact any_none_not fun k hk => by rw [opnB_first hd hcl]; exact (hop' k hk).1
end Go.Proofs.YtgaanndidcdbpaaGreat
