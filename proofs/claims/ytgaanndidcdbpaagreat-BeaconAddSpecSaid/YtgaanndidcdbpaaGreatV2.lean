/- What the reference's Commit, Reveal and Open answer; values of one cell. -/
import Derived.Test.YtgaanndidcdbpaaGreatV1
import Derived.BigQuiet
namespace Go.Proofs.YtgaanndidcdbpaaGreat
open Go.RowKit Go.Shelf

theorem chk_240 {b : BeaD} (h : chkD b ≠ 0) : chkD b = 240 := by
  have := chk_ref b
  split at this
  · exact absurd this h
  · exact this
theorem com_has {b : BeaD} (h : chkD b = 0) (c : Int) : (comAt b c).isSome = decide (0 ≤ comI b c) := by
  rw [fst_last (ChkB.of h).comD]
  by_cases h0 : 0 ≤ comI b c
  · rw [if_pos h0, decide_eq_true h0]; rfl
  · rw [if_neg h0, decide_eq_false h0]; rfl
theorem compl_is {b : BeaD} (h : chkD b = 0) : doneB b = complR b := by
  have hC := ChkB.of h
  rw [Bool.eq_iff_iff, done_len h, compl_done hC.new.club hC.comD (fun i hi => (comB_mem (hC.com i hi)).1)]
theorem commitD_ref (b : BeaD) (c : ComD) : commitD b c = if chkD b ≠ 0 then (bea0, 240) else if decide (0 ≤ comI b c.club) = true then (bea0, 240) else if comB b c = true then ({b with coms := b.coms ++ [c]}, 0) else (bea0, 240) := by
  unfold commitD
  by_cases h : chkD b = 0
  · rw [if_pos h, if_neg (fun q : chkD b ≠ 0 => q h), com_has h]
    cases decide (0 ≤ comI b c.club) <;> cases comB b c <;> rfl
  · rw [if_neg h, if_pos h, chk_240 h]
theorem revealD_ref (b : BeaD) (r : RevD) : revealD b r = if chkD b ≠ 0 then (bea0, 240) else if complR b = false then (bea0, 240) else if (List.range b.revs.length).any (fun i => decide ((revN b.revs i).club = r.club)) = true then (bea0, 240) else if rvR b r = true then ({b with revs := b.revs ++ [r]}, 0) else (bea0, 241) := by
  unfold revealD
  by_cases h : chkD b = 0
  · rw [if_pos h, if_neg (fun q : chkD b ≠ 0 => q h), compl_is h, revB_first (ChkB.of h).comD]
    cases complR b <;> cases (List.range b.revs.length).any (fun i => decide ((revN b.revs i).club = r.club)) <;> cases rvR b r <;> rfl
  · rw [if_neg h, if_pos h, chk_240 h]
theorem openD_ref (b : BeaD) (o : OpnD) : openD b o = if chkD b ≠ 0 then (bea0, 240) else if complR b = false then (bea0, 240) else if (List.range b.opns.length).any (fun i => decide ((opnN b.opns i).club = o.club) && decide ((opnN b.opns i).frm = o.frm)) = true then (bea0, 240) else if opR b o = true then ({b with opns := b.opns ++ [o]}, 0) else (bea0, 241) := by
  unfold openD
  by_cases h : chkD b = 0
  · rw [if_pos h, if_neg (fun q : chkD b ≠ 0 => q h), compl_is h, opnB_first (ChkB.of h).comD (ChkB.of h).new.club]
    cases complR b <;> cases (List.range b.opns.length).any (fun i => decide ((opnN b.opns i).club = o.club) && decide ((opnN b.opns i).frm = o.frm)) <;> cases opR b o <;> rfl
  · rw [if_neg h, if_pos h, chk_240 h]
theorem flat_one {f : Nat → Nat → Value} {n sz : Nat} (h : ∀ i j, i < n → (f i j).oneCell' = true) (_ : 0 < sz) : ∀ u ∈ flatF f n sz, u.oneCell' = true := by
  intro u hu
  unfold flatF at hu
  obtain ⟨j, hj, rfl⟩ := List.mem_map.1 hu
  exact h _ _ (Nat.div_lt_of_lt_mul (by rw [Nat.mul_comm]; exact List.mem_range.1 hj))
theorem one_coms {w : World} {M : Nat → Prop} {l : List ComD} {vs : Nat → Value} (h : ∀ i, i < l.length → IsU64 w M (vs i) (comN l i).checks) : ∀ u ∈ flatF (comC vs l) l.length 2, u.oneCell' = true := flat_one (fun i j hi => by
  unfold comC
  split
  · rfl
  · obtain ⟨A, c, e, -⟩ := h i hi
    rw [e]; rfl) (by decide)
theorem one_revs (l : List RevD) : ∀ u ∈ flatF (fun i j => revC (revN l i) j) l.length 2, u.oneCell' = true := flat_one (fun i j _ => by unfold revC; split <;> rfl) (by decide)
theorem one_opns (l : List OpnD) : ∀ u ∈ flatF (fun i j => opnC (opnN l i) j) l.length 4, u.oneCell' = true := flat_one (fun i j _ => by
  unfold opnC
  split
  · rfl
  · split
    · rfl
    · split <;> rfl) (by decide)
theorem flat_news {W : World} {M : Nat → Prop} {sz n : Nat} {A : Option Addr} {f : Nat → Nat → Value} (h : Cells W M sz A n f) (hsz : 0 < sz) : 0 < n → ∃ ad, A = some ad ∧ ∀ j u, (flatF f n sz)[j]? = some u → W.cell? (ad.add j) = some u := fun h0 => by
  obtain ⟨b, off, e, -⟩ := h h0
  exact ⟨_, e, flatF_holds h hsz _ e⟩
theorem own_kept {w W : World} {base e sz n : Nat} {v : Value} {xs : List Value} (h : w.ownsRow base e sz v n xs) (hk : ∀ q, base ≤ q → q < w.heap.size → W.heap[q]? = w.heap[q]?) : W.ownsRow base e sz v n xs := by
  refine ⟨h.1, h.2.imp id fun ⟨q, cap, cur, q1, q2, q3, q4⟩ => ⟨q, cap, cur, q1, q2, (hk q q2 (lt_heap q3)).trans q3, q4⟩⟩
end Go.Proofs.YtgaanndidcdbpaaGreat
