import Derived.Test.YtbkgkgigcohbpaaD6
namespace Go.Proofs.Ytbkgkgigcohbpaa
open Go.RowKit
/-- the number of an outcome -/
def numF (d : DrawD) (ps : List Int) (i : Nat) : Bool := decide (ofN ((outsD d).getD i []) = ps)
def numberD (d : DrawD) (ps : List Int) : Nat × Int := if checkB d then (if 0 ≤ idxF (numF d ps) (outsD d).length then ((idxF (numF d ps) (outsD d).length).toNat, 0) else (0, 1)) else (0, 260)
theorem ofN_inj {a b : List Nat} (h : ofN a = ofN b) : a = b := (List.map_inj_right (fun _ _ h => Int.ofNat.inj h)).1 h
theorem numberD_bad {d : DrawD} {ps : List Int} (h : checkB d = false) : numberD d ps = (0, 260) := by unfold numberD; rw [h]; rfl
theorem numberD_not {d : DrawD} {ps : List Int} (h : checkB d = true) (hn : ∀ x ∈ outsD d, ofN x ≠ ps) : numberD d ps = (0, 1) := by
  unfold numberD
  rw [if_pos h, idxF_none (fun j hj => ?_)]
  · rfl
  · unfold numF
    rw [List.getD_eq_getElem?_getD, List.getElem?_eq_getElem hj]
    exact decide_eq_false (hn _ (List.getElem_mem hj))
theorem numberD_at {d : DrawD} {ps : List Int} {k : Nat} {x : List Nat} (h : checkB d = true) (hk : (outsD d)[k]? = some x) (hx : ofN x = ps) : numberD d ps = (k, 0) := by
  obtain ⟨hl, hk'⟩ := List.getElem?_eq_some_iff.1 hk
  have hf : idxF (numF d ps) (outsD d).length = k := by
    refine idxF_some hl ?_ fun j hj => ?_
    · unfold numF
      rw [List.getD_eq_getElem?_getD, hk]
      exact decide_eq_true hx
    · unfold numF
      rw [List.getD_eq_getElem?_getD, List.getElem?_eq_getElem (by omega)]
      refine decide_eq_false fun e => ?_
      have he : (outsD d)[j] = x := by
        have hm : ofN (outsD d)[j] = ofN x := by rw [hx]; exact e
        exact ofN_inj hm
      have := (sorted_get (l := outsD d) (outs_sorted ..) (List.getElem?_eq_getElem (show j < _ by omega)) hk).1.1 he
      omega
  unfold numberD
  rw [if_pos h, hf, if_pos (by omega)]
  rfl
def setOf (l : List Nat) (s : Nat) : Nat := l.foldl wth s
theorem okL_append (may : Nat → Nat → Bool) (n : Nat) : ∀ (a b : List Nat) (i s : Nat), okL may n i s (a ++ b) = (okL may n i s a && okL may n (i + a.length) (setOf a s) b)
  | [], b, i, s => by simp [okL, setOf]
  | k :: a, b, i, s => by
    rw [List.cons_append, okL, okL, okL_append may n a b, List.length_cons, show i + (a.length + 1) = i + 1 + a.length by omega]
    simp only [Bool.and_assoc]
    rfl
/-- where the reckoning of a number stands -/
structure Num (d : DrawD) (ps : List Int) (qs : List Nat) (i s k : Nat) : Prop where
  len : qs.length = i
  take : ofN qs = ps.take i
  cnt : pcn s (nD d) = i
  set : s < 2 ^ nD d
  sets : s = setOf qs 0
  bound : k + Rn (mayD d) (nD d) s ≤ Rn (mayD d) (nD d) 0
  get : ∀ t, t < Rn (mayD d) (nD d) s → (outsD d)[k + t]? = ((On (mayD d) (nD d) s)[t]?).map (qs ++ ·)
theorem Num.start (d : DrawD) (ps : List Int) : Num d ps [] 0 0 0 :=
  ⟨rfl, rfl, pcn_zero _, Nat.two_pow_pos _, rfl, by omega, fun t _ => by rw [Nat.zero_add]; unfold outsD; cases (On (mayD d) (nD d) 0)[t]? <;> rfl⟩
theorem step_sum {d : DrawD} {s i : Nat} (hp : pcn s (nD d) = i) (hs : s < 2 ^ nD d) (hi : i < nD d) : Rn (mayD d) (nD d) s = sumB (addK (mayD d) (nD d) s) (nD d) := by
  have hF : 2 ^ nD d = (2 ^ nD d - 1) + 1 := by have := Nat.two_pow_pos (nD d); omega
  have hne : s ≠ 2 ^ nD d - 1 := by
    rintro rfl
    rw [pcn_full _ _ (Nat.le_refl _)] at hp
    omega
  exact Rn_step hF (by omega)
theorem Num.next {d : DrawD} {ps : List Int} {qs : List Nat} {i s k j : Nat} (h : Num d ps qs i s k) (hi : i < nD d) (hl : i < ps.length) (hj : j < nD d) (hp : ps[i]? = some (j : Int)) (hb : s.testBit j = false) (hm : mayD d i j = true) :
    Num d ps (qs ++ [j]) (i + 1) (wth s j) (k + sumB (addK (mayD d) (nD d) s) j) := by
  have hpc := h.cnt
  have ha := addK_yes (may := mayD d) (n := nD d) hb (by rw [hpc]; exact hm)
  have hsum := step_sum hpc h.set hi
  have hmono := sumB_mono (f := addK (mayD d) (nD d) s) (show j + 1 ≤ nD d by omega)
  have hsj : sumB (addK (mayD d) (nD d) s) (j + 1) = sumB (addK (mayD d) (nD d) s) j + Rn (mayD d) (nD d) (wth s j) := by rw [sumB, ha]
  refine ⟨by rw [List.length_append, h.len]; rfl, ?_, by rw [pcn_wth hb, if_pos hj, hpc], wth_lt h.set hj, ?_, ?_, fun t ht => ?_⟩
  · obtain ⟨hl', he⟩ := List.getElem?_eq_some_iff.1 hp
    rw [List.take_succ_eq_append_getElem hl, he, ← h.take]
    simp [ofN]
  · unfold setOf
    rw [List.foldl_append]
    show wth s j = wth (setOf qs 0) j
    rw [← h.sets]
  · have := h.bound; omega
  · rw [Nat.add_assoc, h.get _ (by omega), On_get (by rw [hpc]; exact hi) hj hb (by rw [hpc]; exact hm) (by omega) (by omega), Nat.add_sub_cancel_left, Option.map_map]
    congr 1
    funext x
    simp
theorem Num.bad {d : DrawD} {ps : List Int} {qs : List Nat} {i s k : Nat} (h : Num d ps qs i s k) (hl : i < ps.length) (hb : ∀ j : Nat, ps[i]? = some (j : Int) → j < nD d → s.testBit j = false → mayD d i j = false) : ∀ x ∈ outsD d, ofN x ≠ ps := by
  intro x hx e
  obtain ⟨h1, h2⟩ := mem_outs.1 (show x ∈ outs (mayD d) (nD d) (nD d - pcn 0 (nD d)) (pcn 0 (nD d)) 0 from hx)
  have hxl : x.length = ps.length := by rw [← e, ofN_len]
  have htk : ofN (x.take i) = ofN qs := by rw [h.take, ← e]; simp [ofN]
  have htk2 : x.take i = qs := ofN_inj htk
  have hd : x = qs ++ x[i]'(by omega) :: x.drop (i + 1) := by
    rw [← htk2]
    have := (List.take_append_drop i x).symm
    rw [List.drop_eq_getElem_cons (show i < x.length by omega)] at this
    exact this
  rw [hd, pcn_zero, okL_append, h.len, ← h.sets, okL, Bool.and_eq_true, Bool.and_eq_true, Bool.and_eq_true, Bool.and_eq_true, decide_eq_true_eq, Bool.not_eq_true', Nat.zero_add] at h2
  have hpi : (ofN x)[i]? = some ((x[i]'(by omega) : Nat) : Int) := by
    unfold ofN
    rw [List.getElem?_map, List.getElem?_eq_getElem (show i < x.length by omega)]; rfl
  rw [e] at hpi
  have := hb _ hpi h2.2.1.1 h2.2.1.2.1
  rw [this] at h2
  exact absurd h2.2.1.2.2 (by decide)
theorem Num.done {d : DrawD} {ps : List Int} {qs : List Nat} {s k : Nat} (h : Num d ps qs (nD d) s k) (hc : checkB d = true) (hl : ps.length = nD d) : numberD d ps = (k, 0) := by
  have hg := h.get 0 (by rw [← On_len, On_full h.cnt]; exact Nat.one_pos)
  rw [On_full h.cnt] at hg
  exact numberD_at hc (x := qs) (by rw [Nat.add_zero] at hg; rw [hg]; simp) (by rw [h.take, List.take_of_length_le (by omega)])
theorem number_len {d : DrawD} {ps : List Int} (hl : ps.length ≠ nD d) : ∀ x ∈ outsD d, ofN x ≠ ps := by
  intro x hx e
  obtain ⟨h1, -⟩ := mem_outs.1 (show x ∈ outs (mayD d) (nD d) (nD d - pcn 0 (nD d)) (pcn 0 (nD d)) 0 from hx)
  rw [pcn_zero] at h1
  apply hl
  rw [← e, ofN_len, h1]; rfl
end Go.Proofs.Ytbkgkgigcohbpaa
