import Derived.Test.YtocjhepiooljpaaZy
import Derived.Test.YtocjhepiooljpaaZs
/- Plain laws behind WalSteps, WalDamage and WalSurvives. -/
namespace Go.Proofs.Ytocjhepiooljpaa
open Go.RowKit Go.Shelf

/-- records appended one by one, those that do not fit left out -/
def addAll (D : DiskD) (new rs : List (List UInt8)) : List (List UInt8) := rs.foldl (fun acc b => if used (recs D.sectors ++ acc) + secs b.length ≤ D.sectors.length then acc ++ [b] else acc) new
theorem addAll_snoc (D : DiskD) (new rs : List (List UInt8)) (k : Nat) (h : k < rs.length) :
    addAll D new (rs.take (k + 1)) = if used (recs D.sectors ++ addAll D new (rs.take k)) + secs (rs[k]).length ≤ D.sectors.length then addAll D new (rs.take k) ++ [rs[k]] else addAll D new (rs.take k) := by
  unfold addAll
  rw [List.take_add_one, List.getElem?_eq_getElem h, Option.toList_some, List.foldl_append]
  rfl
theorem addAll_fit {D : DiskD} {new : List (List UInt8)} (h : used (recs D.sectors ++ new) ≤ D.sectors.length) (rs : List (List UInt8)) : used (recs D.sectors ++ addAll D new rs) ≤ D.sectors.length := by
  unfold addAll
  induction rs generalizing new with
  | nil => exact h
  | cons b r ih =>
    rw [List.foldl_cons]
    split
    · rename_i hb
      refine ih ?_
      rw [← List.append_assoc, used_append]
      show _ + used [b] ≤ _
      rw [used_cons, used_nil, Nat.add_zero]
      exact hb
    · exact ih h
theorem addAll_from {D E : DiskD} {base new : List (List UInt8)} (hl : E.sectors.length = D.sectors.length) (hr : recs E.sectors = recs D.sectors ++ base) (rs : List (List UInt8)) : addAll D (base ++ new) rs = base ++ addAll E new rs := by
  unfold addAll
  induction rs generalizing new with
  | nil => rfl
  | cons b r ih =>
    have e1 : recs E.sectors ++ new = recs D.sectors ++ (base ++ new) := by rw [hr, List.append_assoc]
    rw [List.foldl_cons, List.foldl_cons]
    by_cases h : used (recs D.sectors ++ (base ++ new)) + secs b.length ≤ D.sectors.length
    · rw [if_pos h, if_pos (show used (recs E.sectors ++ new) + secs b.length ≤ E.sectors.length by rw [e1, hl]; exact h), List.append_assoc]
      exact ih
    · rw [if_neg h, if_neg (show ¬ used (recs E.sectors ++ new) + secs b.length ≤ E.sectors.length by rw [e1, hl]; exact h)]
      exact ih
theorem addAll_pre (D : DiskD) (new rs : List (List UInt8)) : ∃ x, addAll D new rs = new ++ x := by
  unfold addAll
  induction rs generalizing new with
  | nil => exact ⟨[], (List.append_nil _).symm⟩
  | cons b r ih =>
    rw [List.foldl_cons]
    split
    · obtain ⟨x, hx⟩ := ih (new ++ [b])
      exact ⟨b :: x, by rw [hx, List.append_assoc]; rfl⟩
    · exact ih new
/-- a disk that works, with nothing pending and no stop set -/
structure Wk (D : DiskD) (n g : Nat) : Prop where
  runs : runsB D = true
  pend : D.pending = []
  left : D.left = -1
  len : D.sectors.length = n
  gen : genMax D.sectors ≤ g
theorem Wk.ok {D : DiskD} {n g : Nat} (h : Wk D n g) : okB D = true := (runsB_iff.1 h.runs).1
theorem wk_fresh {n : Nat} (h1 : 1 ≤ n) (h2 : n ≤ 4096) : Wk (freshD n) n 0 := ⟨fresh_runs h1 h2, rfl, rfl, by simp [freshD], by rw [show (freshD n).sectors = List.replicate n zs128 from rfl, fresh_gen]; exact Nat.le_refl _⟩
theorem rec_fresh (n : Nat) : recs (freshD n).sectors = [] := fresh_recs n
theorem fit_logOf {D : DiskD} {n g : Nat} (h : Wk D n g) : used (recs D.sectors ++ []) ≤ D.sectors.length := by
  obtain ⟨-, -, hu, -⟩ := recs_split (okB_sized h.ok).2
  rw [List.append_nil]; exact hu
/-- Sync on such a disk -/
theorem Wk.sync {D : DiskD} {n g : Nat} {new : List (List UInt8)} (h : Wk D n g) (hg : g + 1 < 4294967296) (hu : used (recs D.sectors ++ new) ≤ D.sectors.length) :
    ∃ E, syncL (logOf D new) D = (logOf E [], E, 0) ∧ Wk E n (g + 1) ∧ recs E.sectors = recs D.sectors ++ new ∧ E.sectors = (if new = [] then D.sectors else newSecs D.sectors new (used new)) := by
  have hgen := h.gen
  obtain ⟨E, s1, s2, s3, s4, s5, s6, s7, s8⟩ := sync_all h.runs h.pend (by omega) hu (by rw [h.left]; rintro ⟨h, -⟩; exact absurd h (by decide))
  refine ⟨E, ?_, ⟨s2, s3, s5 h.left, s6.trans h.len, by omega⟩, s7, s4⟩
  rw [s1]
  unfold logOf
  rw [s6, s7, List.append_nil]
theorem Wk.open_ {D : DiskD} {n g : Nat} (h : Wk D n g) : openL D = (logOf D [], 0) := openL_runs h.runs h.pend
/-- syncing again -/
theorem Wk.again {D : DiskD} {n g : Nat} (h : Wk D n g) (hg : g + 1 < 4294967296) : syncL (logOf D []) D = (logOf D [], D, 0) := by
  have hgen := h.gen
  rw [syncL_logOf h.runs h.pend (by omega) (fit_logOf h), if_pos rfl]
/-- WalSteps -/
structure Steps (a b : List (List UInt8)) (C X Y : DiskD) : Prop where
  both : syncL (logOf (freshD 40) (addAll (freshD 40) (addAll (freshD 40) [] a) b)) (freshD 40) = (logOf C [], C, 0)
  one : syncL (logOf (freshD 40) (addAll (freshD 40) [] a)) (freshD 40) = (logOf X [], X, 0)
  two : syncL (logOf X (addAll X [] b)) X = (logOf Y [], Y, 0)
  again : syncL (logOf Y []) Y = (logOf Y [], Y, 0)
  same : logOf C [] = logOf Y []
  openC : openL C = (logOf C [], 0)
  openY : openL Y = (logOf Y [], 0)
  wkX : Wk X 40 1
  wkY : Wk Y 40 2
  small : (logOf Y []).recs.length ≤ 40
theorem steps (a b : List (List UInt8)) : ∃ C X Y, Steps a b C X Y := by
  have h0 := wk_fresh (n := 40) (by omega) (by omega)
  have f0 := fit_logOf h0
  have fA := addAll_fit f0 a
  have fB := addAll_fit fA b
  obtain ⟨C, c1, c2, c3, -⟩ := h0.sync (by omega) fB
  obtain ⟨X, x1, x2, x3, -⟩ := h0.sync (by omega) fA
  have fX := addAll_fit (fit_logOf x2) b
  obtain ⟨Y, y1, y2, y3, -⟩ := x2.sync (by omega) fX
  have hfrom := addAll_from (new := []) (x2.len.trans h0.len.symm) x3 b
  rw [List.append_nil] at hfrom
  have hYC : recs Y.sectors = recs C.sectors := by rw [y3, c3, x3, List.append_assoc, ← hfrom]
  refine ⟨C, X, Y, c1, x1, y1, y2.again (by omega), ?_, c2.open_, y2.open_, x2, y2, ?_⟩
  · unfold logOf
    rw [hYC, c2.len, y2.len]
  · have := recs_len (okB_sized y2.ok).2
    unfold logOf
    dsimp only
    rw [List.append_nil, ← y2.len]
    exact this
theorem cnt_spec : ∀ (rs : List (List UInt8)) (m i : Nat), i < rs.length → (used (rs.take (i + 1)) ≤ m ↔ i < cnt m rs)
  | [], m, i, h => absurd h (by simp)
  | b :: r, m, i, h => by
    rw [List.take_succ_cons, used_cons]
    unfold cnt
    by_cases hb : secs b.length ≤ m
    · rw [if_pos hb]
      cases i with
      | zero => rw [List.take_zero, used_nil]; omega
      | succ i =>
        rw [List.length_cons] at h
        have := cnt_spec r (m - secs b.length) i (by omega)
        omega
    · rw [if_neg hb]; omega
theorem rec_good {g a i : Nat} {rs : List (List UInt8)} {s : List UInt8} (hg : 0 < g) (hg2 : g < 4294967296) (ha : a + used rs ≤ 65536) (hs : (recsW g a rs)[i]? = some s) : goodB s (a + i) = true ∧ s.length = 128 := by
  induction rs generalizing a i with
  | nil => simp [recsW] at hs
  | cons b r ih =>
    rw [used_cons] at ha
    rw [recsW_cons] at hs
    by_cases h : i < secs b.length
    · rw [List.getElem?_append_left (by rw [recW_length]; exact h)] at hs
      unfold recW at hs
      rw [List.getElem?_map, List.getElem?_range h, Option.map_some] at hs
      injection hs with hs
      subst hs
      have := secK_fit hg hg2 h (by omega : a + i < 65536)
      unfold fitS at this
      simp only [Bool.and_eq_true] at this
      exact ⟨this.1.1, secK_length _ _ _ _⟩
    · rw [List.getElem?_append_right (by rw [recW_length]; omega), recW_length] at hs
      have := ih (by omega) hs
      rwa [show a + secs b.length + (i - secs b.length) = a + i by omega] at this
/-- a damaged sector -/
theorem damage {n k i : Nat} {c : UInt8} {new : List (List UInt8)} {s : List UInt8} {ss : List (List UInt8)} (hn : n ≤ 4096) (hu : used new ≤ n) (hk : k < used new) (hss : ss = newSecs (List.replicate n zs128) new (used new)) (hs : ss[k]? = some s) (hi : i < 128) (hc : ∀ h : i < s.length, c ≠ s[i]) :
    s.length = 128 ∧ recs (ss.set k (s.set i c)) = new.take (cnt k new) := by
  have hr : recs (List.replicate n zs128) = [] := fresh_recs n
  have hgm : genMax (List.replicate n zs128) = 0 := fresh_gen n
  have hlW : (recsW 1 0 new).length = used new := recsW_length _ _ _
  have e : ss = recsW 1 0 new ++ (List.replicate n zs128).drop (used new) := by
    rw [hss]
    unfold newSecs
    rw [hr, hgm, used_nil, List.take_zero, List.nil_append, Nat.zero_add, Nat.zero_add, List.take_of_length_le (by rw [hlW]; exact Nat.le_refl _)]
  have hs2 : (recsW 1 0 new)[k]? = some s := by
    rw [e, List.getElem?_append_left (by omega)] at hs
    exact hs
  obtain ⟨hg, h128⟩ := rec_good (by omega) (by omega) (by omega) hs2
  rw [Nat.zero_add] at hg
  refine ⟨h128, ?_⟩
  have hbad := damaged (k' := k) h128 hg (by omega) (hc (by omega))
  have hst : ∀ g, Stops g k (s.set i c :: (recsW 1 0 new ++ (List.replicate n zs128).drop (used new)).drop (k + 1)) := fun g t r h => by
    injection h with h1 h2
    subst h1
    exact .inl hbad
  refine parse_new (g := 1) (by omega) (by omega) (rest := s.set i c :: (recsW 1 0 new ++ (List.replicate n zs128).drop (used new)).drop (k + 1)) new 0 k 0 (by omega) (by omega) (by omega) ?_ (by rw [Nat.zero_add]; exact hst 1) (fun h => by subst h; exact hst 0)
  rw [e, List.drop_zero, List.set_eq_take_append_cons_drop, if_pos (by rw [List.length_append, hlW]; omega), List.take_append_of_le_length (by omega)]
end Go.Proofs.Ytocjhepiooljpaa
/- A round of WalSurvives in plain Lean. -/
namespace Go.Proofs.Ytocjhepiooljpaa
open Go.RowKit Go.Shelf

/-- the disk with a stop set, or none -/
def setLeft (D : DiskD) (x : Int) : DiskD := ⟨D.sectors, D.pending, x, D.stopped⟩
theorem Wk.setLeft {D : DiskD} {n g : Nat} (h : Wk D n g) {x : Int} (h1 : -1 ≤ x) (h2 : x ≤ 65536) : runsB (setLeft D x) = true ∧ (setLeft D x).pending = [] ∧ (setLeft D x).sectors = D.sectors := by
  obtain ⟨hok, hst⟩ := runsB_iff.1 h.runs
  have hl := okB_sized hok
  have hp := h.pend
  rw [okB_iff] at hok
  exact ⟨runsB_iff.2 ⟨okB_of hok.1.1 hok.1.2.1 hp h1 h2 hl.2, hst⟩, hp, rfl⟩
theorem logOf_left (D : DiskD) (x : Int) (new : List (List UInt8)) : logOf (setLeft D x) new = logOf D new := rfl
theorem wk_restart {E : DiskD} {n g : Nat} (h1 : 1 ≤ n) (h2 : n ≤ 4096) (hl : E.sectors.length = n) (hs : Sized128 E.sectors) (hg : genMax E.sectors ≤ g) : Wk (restartD E) n g :=
  ⟨runsB_iff.2 ⟨okB_of (show 1 ≤ E.sectors.length by omega) (show E.sectors.length ≤ 4096 by omega) rfl (by simp [restartD]) (by simp [restartD]) hs, rfl⟩, rfl, rfl, hl, hg⟩
/-- what a round comes to -/
theorem surv {D : DiskD} {n g : Nat} {acc : List (List UInt8)} {x : Int} (h : Wk D n g) (hg : g + 1 < 4294967296) (hu : used (recs D.sectors ++ acc) ≤ D.sectors.length) (h1 : -1 ≤ x) (h2 : x ≤ 65536) :
    (∃ E, syncL (logOf D acc) (setLeft D x) = (⟨D.sectors.length, recs D.sectors ++ acc, (recs D.sectors ++ acc).length⟩, E, 0) ∧ Wk (restartD E) n (g + 1) ∧ recs (restartD E).sectors = recs D.sectors ++ acc) ∨
    (0 ≤ x ∧ ∃ E k, syncL (logOf D acc) (setLeft D x) = (zeroL, E, 340) ∧ Wk (restartD E) n (g + 1) ∧ recs (restartD E).sectors = recs D.sectors ++ acc.take k) := by
  obtain ⟨hr, hp, hs⟩ := h.setLeft h1 h2
  have hgen := h.gen
  have hn := h.len
  have hok := (okB_iff.1 h.ok).1
  by_cases hx : 0 ≤ x ∧ x < used acc
  · right
    obtain ⟨E, s1, s2, s3, s4, s5, s6⟩ := sync_halt (D := setLeft D x) (new := acc) hr hp (by rw [hs]; omega) (by rw [hs]; exact hu) hx
    rw [logOf_left] at s1
    rw [hs] at s4 s5 s6
    exact ⟨hx.1, E, _, s1, wk_restart (by omega) (by omega) (s4.trans hn) s3 (by omega), s5⟩
  · left
    obtain ⟨E, s1, s2, s3, -, -, s6, s7, s8⟩ := sync_all (D := setLeft D x) (new := acc) hr hp (by rw [hs]; omega) (by rw [hs]; exact hu) hx
    rw [logOf_left] at s1
    rw [hs] at s1 s6 s7 s8
    exact ⟨E, s1, wk_restart (by omega) (by omega) (s6.trans hn) (okB_sized (runsB_iff.1 s2).1).2 (by omega), s7⟩
end Go.Proofs.Ytocjhepiooljpaa
/- WalDamage in plain Lean. -/
namespace Go.Proofs.Ytocjhepiooljpaa
open Go.RowKit Go.Shelf

/-- what WalDamage comes to -/
structure Dam (new : List (List UInt8)) (k i : Nat) (by_ : UInt8) (E : DiskD) : Prop where
  sync : syncL (logOf (freshD 40) new) (freshD 40) = (logOf E [], E, 0)
  wk : Wk E 40 1
  recs_ : recs E.sectors = new
  hk : k < E.sectors.length
  size : (E.sectors.getD k []).length = 128
  rest : ∀ s', s' = (E.sectors.getD k []).set i ((E.sectors.getD k []).getD i 0 ^^^ by_) → ∃ E1 E2, writeD E (k : Int) s' = (E1, 0) ∧ syncD E1 = (E2, 0) ∧ openL E2 = (logOf E2 [], 0) ∧ recs E2.sectors = new.take (cnt k new)
theorem xor_ne {a b : UInt8} (h : b ≠ 0) : a ^^^ b ≠ a := fun e => h (by
  have h2 : a ^^^ (a ^^^ b) = a ^^^ a := by rw [e]
  rwa [← UInt8.xor_assoc, UInt8.xor_self, UInt8.zero_xor] at h2)
theorem dam {new : List (List UInt8)} {k i : Nat} {by_ : UInt8} (hu : used new ≤ 40) (hk : k < used new) (hi : i < 128) (hb : by_ ≠ 0) : ∃ E, Dam new k i by_ E := by
  have h0 := wk_fresh (n := 40) (by omega) (by omega)
  have hr0 := rec_fresh 40
  have hne : new ≠ [] := by rintro rfl; simp [used_nil] at hk
  obtain ⟨E, s1, s2, s3, s4⟩ := h0.sync (new := new) (by omega) (by rw [hr0, List.nil_append]; exact Nat.le_trans hu (Nat.le_of_eq h0.len.symm))
  rw [if_neg hne] at s4
  rw [hr0, List.nil_append] at s3
  have hlen := s2.len
  have hkE : k < E.sectors.length := by omega
  have hss : E.sectors = newSecs (List.replicate 40 zs128) new (used new) := s4
  obtain ⟨hok, hst⟩ := runsB_iff.1 s2.runs
  have hsz := okB_sized hok
  have hg : E.sectors.getD k [] = E.sectors[k] := by rw [List.getD_eq_getElem?_getD, List.getElem?_eq_getElem hkE, Option.getD_some]
  have h128 : (E.sectors[k]).length = 128 := hsz.2 _ (List.getElem_mem hkE)
  have hgi : (E.sectors[k]).getD i 0 = (E.sectors[k])[i]'(by omega) := by rw [List.getD_eq_getElem?_getD, List.getElem?_eq_getElem (by omega), Option.getD_some]
  refine ⟨E, s1, s2, s3, hkE, by rw [hg]; exact h128, fun s' hs' => ?_⟩
  rw [hg, hgi] at hs'
  have hl' : s'.length = 128 := by rw [hs', List.length_set]; exact h128
  have hd := (damage (c := (E.sectors[k])[i]'(by omega) ^^^ by_) (by omega) hu hk hss (List.getElem?_eq_getElem hkE) hi (fun _ => xor_ne hb)).2
  rw [← hs'] at hd
  have hr := s2.runs
  have hp := s2.pend
  have hh : hasB E (k : Int) = true := hasB_iff.2 ⟨by omega, by omega⟩
  have hw := writeD_yes (b := s') hr hh (by omega) (by rw [hp]; simp)
  have hr1 := runs_wrote (b := s') hr hh (by omega) (by rw [hp]; simp)
  have hx : ¬ (0 ≤ (wrote E (k : Int) s').left ∧ (wrote E (k : Int) s').left < (wrote E (k : Int) s').pending.length) := by
    show ¬ (0 ≤ E.left ∧ _)
    rw [s2.left]; rintro ⟨h, -⟩; exact absurd h (by decide)
  have hsec : (synced (wrote E (k : Int) s')).sectors = E.sectors.set k s' := by
    unfold synced wrote performD pad
    rw [hp, hl']
    simp
  refine ⟨_, _, hw, syncD_go hr1 hx, openL_runs (runs_synced hr1 hx) rfl, ?_⟩
  rw [hsec]
  exact hd
end Go.Proofs.Ytocjhepiooljpaa
