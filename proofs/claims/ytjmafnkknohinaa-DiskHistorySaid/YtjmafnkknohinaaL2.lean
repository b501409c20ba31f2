import Derived.Test.YtjmafnkknohinaaL1
namespace Go.Proofs.Ytjmafnkknohinaa

/- writes, synced one by one and together: no program here -/
def tstep (d : DiskD) (p : Int × UInt8) : DiskD × Int := syncD (wrote d p.1 [p.2])
def tone (ps : List (Int × UInt8)) (d : DiskD) : DiskD × Int := ps.foldl (fun q p => if q.2 = 0 then tstep q.1 p else q) (d, 0)
def tall (ps : List (Int × UInt8)) (d : DiskD) : DiskD := ps.foldl (fun q p => wrote q p.1 [p.2]) d
theorem tone_snoc (ps : List (Int × UInt8)) (p : Int × UInt8) (d : DiskD) : tone (ps ++ [p]) d = if (tone ps d).2 = 0 then tstep (tone ps d).1 p else tone ps d := by
  unfold tone; rw [List.foldl_append]; rfl
theorem tall_snoc (ps : List (Int × UInt8)) (p : Int × UInt8) (d : DiskD) : tall (ps ++ [p]) d = wrote (tall ps d) p.1 [p.2] := by
  unfold tall; rw [List.foldl_append]; rfl
theorem performD_append (ss : List (List UInt8)) (a b : List Wr) : performD ss (a ++ b) = performD (performD ss a) b := by
  unfold performD; rw [List.foldl_append]
theorem snocInd {α : Type} {P : List α → Prop} (h0 : P []) (h1 : ∀ l a, P l → P (l ++ [a])) (l : List α) : P l := by
  have h : ∀ r : List α, P r.reverse := fun r => by
    induction r with
    | nil => exact h0
    | cons a r ih => rw [List.reverse_cons]; exact h1 _ _ ih
  have := h l.reverse
  rwa [List.reverse_reverse] at this

structure TInv (d : DiskD) (ps : List (Int × UInt8)) : Prop where
  runs : runsB (tall ps d) = true
  pend : (tall ps d).pending.length = ps.length
  sect : (tall ps d).sectors = d.sectors
  left : (tall ps d).left = d.left
theorem tinv {d : DiskD} (hr : runsB d = true) (hp : d.pending = []) (ps : List (Int × UInt8)) : (∀ p ∈ ps, hasB d p.1 = true) → ps.length ≤ 20 → TInv d ps := by
  refine snocInd (P := fun ps => (∀ p ∈ ps, hasB d p.1 = true) → ps.length ≤ 20 → TInv d ps) (fun _ _ => ⟨hr, by simp [tall, hp], rfl, rfl⟩) (fun ps p ih hps hl => ?_) ps
  obtain ⟨h1, h2, h3, h4⟩ := ih (fun q hq => hps q (by simp [hq])) (by simp at hl; omega)
  have hh : hasB (tall ps d) p.1 = true := by
    have := hps p (by simp)
    unfold hasB at this ⊢
    rw [h3]; exact this
  simp at hl
  refine ⟨?_, ?_, ?_, ?_⟩
  · rw [tall_snoc]; exact runs_wrote h1 hh (by simp) (by omega)
  · rw [tall_snoc]; simp [wrote, h2]
  · rw [tall_snoc]; exact h3
  · rw [tall_snoc]; exact h4
theorem tone_eq {d : DiskD} (hr : runsB d = true) (hp : d.pending = []) (ps : List (Int × UInt8)) : (∀ p ∈ ps, hasB d p.1 = true) → ps.length ≤ 20 → tone ps d = syncD (tall ps d) := by
  refine snocInd (P := fun ps => (∀ p ∈ ps, hasB d p.1 = true) → ps.length ≤ 20 → tone ps d = syncD (tall ps d)) (fun _ _ => ?_) (fun ps p ih hps hl => ?_) ps
  · have hst := (runsB_iff.1 hr).2
    have e : tall [] d = d := rfl
    rw [e, syncD_go hr (by rw [hp]; simp)]
    obtain ⟨ss, pe, l, st⟩ := d
    simp only at hp hst
    subst hp hst
    simp [tone, synced, performD]
  · have hps' : ∀ q ∈ ps, hasB d q.1 = true := fun q hq => hps q (by simp [hq])
    have hl' : ps.length ≤ 20 := by simp at hl; omega
    obtain ⟨h1, h2, h3, h4⟩ := tinv hr hp ps hps' hl'
    have hi := ih hps' hl'
    have hpp := hps p (by simp)
    simp at hl
    rw [tone_snoc, hi, tall_snoc]
    generalize hD : tall ps d = D at *
    have hh : hasB D p.1 = true := by unfold hasB at hpp ⊢; rw [h3]; exact hpp
    have hrw := runs_wrote (b := [p.2]) h1 hh (by simp) (by omega)
    by_cases hc : 0 ≤ D.left ∧ D.left < D.pending.length
    · rw [syncD_stop h1 hc, if_neg (show ¬ (340 : Int) = 0 by decide), syncD_stop hrw (by simp [wrote]; omega)]
      simp only [halted, wrote]
      rw [List.take_append_of_le_length (by omega)]
    · rw [syncD_go h1 hc, if_pos rfl]
      have hrs := runs_synced h1 hc
      have hhs : hasB (synced D) p.1 = true := by rw [has_synced]; exact hh
      have hrsw := runs_wrote (b := [p.2]) hrs hhs (by simp) (by simp [synced])
      unfold tstep
      by_cases hc2 : 0 ≤ D.left ∧ D.left < D.pending.length + 1
      · have hl0 : D.left = D.pending.length := by omega
        rw [syncD_stop hrsw (by simp [wrote, synced]; omega), syncD_stop hrw (by simp [wrote]; omega)]
        simp only [halted, wrote, synced]
        rw [if_pos hc2.1]
        have e1 : (D.left - (D.pending.length : Int)).toNat = 0 := by omega
        have e2 : D.left.toNat = D.pending.length := by omega
        rw [e1, e2, List.take_zero, List.take_left' rfl]
        rfl
      · rw [syncD_go hrsw (by simp only [wrote, synced, List.nil_append, List.length_cons, List.length_nil]; split <;> omega), syncD_go hrw (by simp [wrote]; omega)]
        simp only [synced, wrote, performD_append, List.nil_append, List.length_append, List.length_cons, List.length_nil]
        congr 2
        split <;> omega
theorem tone_runs {d : DiskD} (hr : runsB d = true) (hp : d.pending = []) (ps : List (Int × UInt8)) (hps : ∀ p ∈ ps, hasB d p.1 = true) (hl : ps.length ≤ 20) (h0 : (tone ps d).2 = 0) :
    runsB (tone ps d).1 = true ∧ (tone ps d).1.pending = [] ∧ (tone ps d).1.sectors.length = d.sectors.length := by
  obtain ⟨h1, h2, h3, h4⟩ := tinv hr hp ps hps hl
  rw [tone_eq hr hp ps hps hl] at h0 ⊢
  by_cases hc : 0 ≤ (tall ps d).left ∧ (tall ps d).left < (tall ps d).pending.length
  · rw [syncD_stop h1 hc] at h0; cases h0
  · rw [syncD_go h1 hc]
    exact ⟨runs_synced h1 hc, rfl, by simp [synced, performD_length, h3]⟩
theorem tone_fail {d : DiskD} {ps qs : List (Int × UInt8)} (h : (tone ps d).2 ≠ 0) : tone (ps ++ qs) d = tone ps d := by
  refine snocInd (P := fun qs => tone (ps ++ qs) d = tone ps d) (by simp) (fun l a ih => ?_) qs
  rw [← List.append_assoc, tone_snoc, ih, if_neg h]
end Go.Proofs.Ytjmafnkknohinaa
