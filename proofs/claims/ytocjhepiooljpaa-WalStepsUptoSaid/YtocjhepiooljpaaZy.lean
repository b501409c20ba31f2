import Derived.Test.YtocjhepiooljpaaA13
import Derived.Test.YtocjhepiooljpaaZs
import Derived.Test.YtocjhepiooljpaaL1
import Derived.Test.YtocjhepiooljpaaA14
import Derived.Test.YtocjhepiooljpaaA12
/- Sync: what it answers, in plain Lean. -/
namespace Go.Proofs.Ytocjhepiooljpaa
open Go.RowKit Go.Shelf

/-- the writes of the sectors ss from place a on -/
def wrsAt : Nat → List (List UInt8) → List Wr
  | _, [] => []
  | a, s :: r => ⟨(a : Int), s⟩ :: wrsAt (a + 1) r
theorem wrsAt_length (ss : List (List UInt8)) : ∀ a, (wrsAt a ss).length = ss.length := by
  induction ss with
  | nil => exact fun _ => rfl
  | cons s r ih => intro a; simp [wrsAt, ih]
theorem wrsAt_append (xs ys : List (List UInt8)) : ∀ a, wrsAt a (xs ++ ys) = wrsAt a xs ++ wrsAt (a + xs.length) ys := by
  induction xs with
  | nil => intro a; simp [wrsAt]
  | cons s r ih => intro a; simp [wrsAt, ih, Nat.add_assoc, Nat.add_comm 1]
/-- the disk on which ss was written from place a on -/
def wroteAt (d : DiskD) (a : Nat) (ss : List (List UInt8)) : DiskD := ⟨d.sectors, d.pending ++ wrsAt a ss, d.left, d.stopped⟩
/-- the disk after such writes, one of which may fail -/
def wroteOr (d : DiskD) (a : Nat) (ss : List (List UInt8)) : DiskD := if a + ss.length ≤ d.sectors.length then wroteAt d a ss else zeroD
/-- what Sync answers -/
def syncL (l : LogD) (d : DiskD) : LogD × DiskD × Int :=
  if okL l then
    if okB d then
      if d.stopped then (zeroL, zeroD, 340)
      else if l.many ≠ d.sectors.length ∨ d.pending ≠ [] then (zeroL, zeroD, 1)
      else if recs d.sectors ≠ l.recs.take l.synced.toNat ∨ 4294967296 ≤ genMax d.sectors + 1 then (zeroL, zeroD, 350)
      else if l.synced = l.recs.length then (l, d, 0)
      else
        let r := syncD (wroteOr d (used (recs d.sectors)) (recsW (genMax d.sectors + 1) (used (recs d.sectors)) (l.recs.drop l.synced.toNat)))
        if r.2 = 0 then (⟨l.many, l.recs, l.recs.length⟩, r.1, 0) else (zeroL, r.1, r.2)
    else (zeroL, zeroD, 340)
  else (zeroL, zeroD, 1)
theorem wrsAt_ok (n : Nat) (ss : List (List UInt8)) : ∀ a, a + ss.length ≤ n → Sized128 ss → (wrsAt a ss).all (penOk n) = true := by
  induction ss with
  | nil => exact fun _ _ _ => rfl
  | cons s r ih =>
    intro a ha hs
    rw [List.length_cons] at ha
    unfold wrsAt
    rw [List.all_cons, ih (a + 1) (by omega) (fun t ht => hs t (List.mem_cons_of_mem _ ht)), Bool.and_true]
    unfold penOk
    simp only [Bool.and_eq_true, decide_eq_true_eq]
    exact ⟨⟨by omega, by omega⟩, hs s List.mem_cons_self⟩
theorem runs_zero : runsB zeroD = false := by decide
theorem wroteAt_runs {d : DiskD} {a : Nat} {ss : List (List UInt8)} (hok : okB d = true) (hst : d.stopped = false) (hp : d.pending = []) (ha : a + ss.length ≤ d.sectors.length) (hs : Sized128 ss) : runsB (wroteAt d a ss) = true := by
  have hl := okB_sized hok
  unfold okB headOk at hok
  simp only [Bool.and_eq_true, decide_eq_true_eq] at hok
  unfold runsB okB headOk wroteAt
  simp only [hp, List.nil_append, wrsAt_length, wrsAt_ok _ ss a ha hs, hst]
  simp only [Bool.and_eq_true, decide_eq_true_eq, Bool.not_false, and_true]
  exact ⟨⟨⟨⟨hok.1.1.1.1.1, by omega⟩, hok.1.1.1.2⟩, hok.1.1.2⟩, hok.1.2⟩
/-- one write more -/
theorem wrote_step {d : DiskD} {a : Nat} {ss : List (List UInt8)} {s : List UInt8} (hok : okB d = true) (hst : d.stopped = false) (hp : d.pending = []) (hs : Sized128 ss) (h128 : s.length = 128) :
    writeD (wroteOr d a ss) ((a + ss.length : Nat) : Int) s = (wroteOr d a (ss ++ [s]), if a + ss.length < d.sectors.length then 0 else 340) := by
  have hl := okB_sized hok
  by_cases h1 : a + ss.length < d.sectors.length
  · have hr := wroteAt_runs (a := a) (ss := ss) hok hst hp (by omega) hs
    rw [if_pos h1]
    unfold wroteOr
    rw [if_pos (show a + ss.length ≤ d.sectors.length by omega), if_pos (show a + (ss ++ [s]).length ≤ d.sectors.length by rw [List.length_append, List.length_singleton]; omega)]
    unfold writeD
    rw [hr, show hasB (wroteAt d a ss) ((a + ss.length : Nat) : Int) = true by rw [hasB_iff]; exact ⟨by omega, by show _ < ((d.sectors.length : Nat) : Int); omega⟩]
    rw [Bool.and_self, if_pos rfl, if_pos (by omega), if_neg (by show ¬ (d.pending ++ wrsAt a ss).length = 4096; rw [hp, List.nil_append, wrsAt_length]; omega)]
    rw [h128, Nat.sub_self, List.replicate_zero, List.append_nil]
    unfold wroteAt
    rw [wrsAt_append, List.append_assoc]
    rfl
  · rw [if_neg h1]
    rw [show wroteOr d a (ss ++ [s]) = zeroD by unfold wroteOr; rw [if_neg (by rw [List.length_append, List.length_singleton]; omega)]]
    unfold wroteOr writeD
    split
    · rw [show hasB (wroteAt d a ss) ((a + ss.length : Nat) : Int) = false by
        rw [Bool.eq_false_iff, Ne, hasB_iff]
        intro h
        have : ((a + ss.length : Nat) : Int) < ((d.sectors.length : Nat) : Int) := h.2
        omega]
      rw [Bool.and_false]; rfl
    · rw [runs_zero]; rfl
theorem write_zero (x : Int) (s : List UInt8) : writeD zeroD x s = (zeroD, 340) := by unfold writeD; rw [runs_zero]; rfl
theorem sync_zero : syncD zeroD = (zeroD, 340) := by unfold syncD; rw [runs_zero]; rfl
theorem used_take {rs : List (List UInt8)} {j : Nat} (h : j < rs.length) : used (rs.take (j + 1)) = used (rs.take j) + secs (rs[j]).length := by
  rw [List.take_add_one, List.getElem?_eq_getElem h, Option.toList_some, used_append]
  show _ + used [_] = _
  rw [used_cons]
  rfl
theorem recsW_append (g : Nat) (xs ys : List (List UInt8)) : ∀ a, recsW g a (xs ++ ys) = recsW g a xs ++ recsW g (a + used xs) ys := by
  induction xs with
  | nil => intro a; rfl
  | cons b r ih => intro a; rw [List.cons_append, recsW_cons, recsW_cons, ih, used_cons, List.append_assoc, Nat.add_assoc]
/-- the sector k of record j -/
theorem recsW_at {g a j k : Nat} {rs : List (List UInt8)} (hj : j < rs.length) (hk : k < secs (rs[j]).length) : (recsW g a rs)[used (rs.take j) + k]? = some (secK g (a + used (rs.take j)) rs[j] k) := by
  have e : rs = rs.take j ++ rs[j] :: rs.drop (j + 1) := by rw [List.getElem_cons_drop, List.take_append_drop]
  have h1 : recsW g a rs = recsW g a (rs.take j) ++ (recW g (a + used (rs.take j)) rs[j] ++ recsW g (a + used (rs.take j) + secs (rs[j]).length) (rs.drop (j + 1))) := by
    conv => lhs; rw [e]
    rw [recsW_append, recsW_cons]
  rw [h1, List.getElem?_append_right (by rw [recsW_length]; omega), recsW_length, Nat.add_sub_cancel_left, List.getElem?_append_left (by rw [recW_length]; exact hk)]
  unfold recW
  rw [List.getElem?_map, List.getElem?_range hk]
  rfl
theorem recsW_sized {g a : Nat} {rs : List (List UInt8)} : Sized128 (recsW g a rs) := by
  induction rs generalizing a with
  | nil => intro s hs; exact absurd hs (by simp [recsW])
  | cons b r ih =>
    intro s hs
    rw [recsW_cons] at hs
    rcases List.mem_append.1 hs with h | h
    · unfold recW at h
      obtain ⟨k, -, rfl⟩ := List.mem_map.1 h
      exact secK_length _ _ _ _
    · exact ih s h
/-- the next write, be it that one failed before -/
theorem wrote_next {d : DiskD} {a m : Nat} {S : List (List UInt8)} {s : List UInt8} {z : Int} (hok : okB d = true) (hst : d.stopped = false) (hp : d.pending = []) (hS : Sized128 S) (hm : m < S.length) (h : a + m ≤ d.sectors.length → z = ((a + m : Nat) : Int) ∧ S[m]? = some s) :
    writeD (wroteOr d a (S.take m)) z s = (wroteOr d a (S.take (m + 1)), if a + m < d.sectors.length then 0 else 340) := by
  have hl : (S.take m).length = m := by rw [List.length_take]; omega
  by_cases hc : a + m ≤ d.sectors.length
  · obtain ⟨rfl, hs⟩ := h hc
    have := wrote_step (d := d) (a := a) (ss := S.take m) (s := s) hok hst hp (fun t ht => hS t (List.mem_of_mem_take ht)) (hS s (List.mem_of_getElem? hs))
    rw [hl] at this
    rw [this, List.take_add_one, hs, Option.toList_some]
  · have e1 : wroteOr d a (S.take m) = zeroD := by unfold wroteOr; rw [hl, if_neg hc]
    have e2 : wroteOr d a (S.take (m + 1)) = zeroD := by unfold wroteOr; rw [List.length_take, if_neg (by omega)]
    rw [e1, e2, write_zero, if_neg (by omega)]
end Go.Proofs.Ytocjhepiooljpaa
/- Sync on a disk that works, in plain Lean: all of it, or the beginning that a stop leaves. -/
namespace Go.Proofs.Ytocjhepiooljpaa
open Go.RowKit Go.Shelf

theorem wrsAt_take (ss : List (List UInt8)) : ∀ a m, (wrsAt a ss).take m = wrsAt a (ss.take m) := by
  induction ss with
  | nil => intro a m; simp [wrsAt]
  | cons s r ih =>
    intro a m
    cases m with
    | zero => rfl
    | succ m => rw [List.take_succ_cons]; unfold wrsAt; rw [List.take_succ_cons, ih]
theorem perform_at (T : List (List UInt8)) : ∀ (ss : List (List UInt8)) (a : Nat), a + T.length ≤ ss.length → performD ss (wrsAt a T) = ss.take a ++ (T ++ ss.drop (a + T.length)) := by
  induction T with
  | nil => intro ss a _; simp [wrsAt, performD]
  | cons t r ih =>
    intro ss a h
    rw [List.length_cons] at h
    have h1 : performD ss (wrsAt a (t :: r)) = performD (ss.set a t) (wrsAt (a + 1) r) := by
      rw [show wrsAt a (t :: r) = ⟨(a : Int), t⟩ :: wrsAt (a + 1) r from rfl]
      unfold performD
      rw [List.foldl_cons]
      rfl
    rw [h1, ih _ _ (by rw [List.length_set]; omega), List.drop_set, if_pos (by omega), List.take_set, List.take_add_one, List.getElem?_eq_getElem (by omega : a < ss.length), Option.toList_some, List.set_append_right _ _ (by rw [List.length_take]; omega), List.length_take, show a - min a ss.length = 0 by omega, List.set_cons_zero, List.append_assoc, List.length_cons, show a + 1 + r.length = a + (r.length + 1) by omega]
    rfl
theorem secK_mem {g a : Nat} {rs : List (List UInt8)} {s : List UInt8} (hg : g < 4294967296) (h : s ∈ recsW g a rs) : genS s = g := by
  induction rs generalizing a with
  | nil => exact absurd h (by simp [recsW])
  | cons b r ih =>
    rw [recsW_cons] at h
    rcases List.mem_append.1 h with h | h
    · unfold recW at h
      obtain ⟨k, -, rfl⟩ := List.mem_map.1 h
      exact secK_gen hg
    · exact ih h
theorem take_len {α : Type} {l : List α} {n : Nat} (h : n ≤ l.length) : (l.take n).length = n := by rw [List.length_take]; omega
/-- the sectors behind a write of the first m sectors of new records -/
def newSecs (ss : List (List UInt8)) (new : List (List UInt8)) (m : Nat) : List (List UInt8) :=
  ss.take (used (recs ss)) ++ ((recsW (genMax ss + 1) (used (recs ss)) new).take m ++ ss.drop (used (recs ss) + m))
theorem cnt_zero (rs : List (List UInt8)) : cnt 0 rs = 0 := by
  cases rs with
  | nil => rfl
  | cons b r => unfold cnt; rw [if_neg (by have := secs_pos b.length; omega)]
theorem recsW_none (g : Nat) (new : List (List UInt8)) : ∀ a, (recsW g a new).length = used new := fun a => recsW_length g a new
theorem newSecs_facts {ss new : List (List UInt8)} {m : Nat} (hs : Sized128 ss) (hl : ss.length ≤ 65536) (hg : genMax ss + 1 < 4294967296) (hm : m ≤ used new) (hu : used (recs ss) + used new ≤ ss.length) :
    (newSecs ss new m).length = ss.length ∧ Sized128 (newSecs ss new m) ∧ recs (newSecs ss new m) = recs ss ++ new.take (cnt m new) ∧ genMax (newSecs ss new m) ≤ genMax ss + 1 := by
  have h1 : ((recsW (genMax ss + 1) (used (recs ss)) new).take m).length = m := take_len (by rw [recsW_length]; exact hm)
  refine ⟨?_, ?_, ?_, ?_⟩
  · unfold newSecs
    rw [List.length_append, List.length_append, h1, List.length_take, List.length_drop]
    omega
  · intro s h
    unfold newSecs at h
    rcases List.mem_append.1 h with h | h
    · exact hs s (List.mem_of_mem_take h)
    · rcases List.mem_append.1 h with h | h
      · exact recsW_sized s (List.mem_of_mem_take h)
      · exact hs s (List.mem_of_mem_drop h)
  · rcases Nat.eq_zero_or_pos m with e | hm0
    · subst e
      unfold newSecs
      rw [cnt_zero, List.take_zero, List.take_zero, List.nil_append, List.append_nil, Nat.add_zero, List.take_append_drop]
    · exact recs_written hs (by omega) hg hm hm0 (by omega) (stops_old (by omega) _ _)
  · refine genMax_le fun s h => ?_
    unfold newSecs at h
    rcases List.mem_append.1 h with h | h
    · have := genMax_ge (List.mem_of_mem_take h); omega
    · rcases List.mem_append.1 h with h | h
      · rw [secK_mem hg (List.mem_of_mem_take h)]; exact Nat.le_refl _
      · have := genMax_ge (List.mem_of_mem_drop h); omega
/-- the log of a disk to which new records were appended -/
def logOf (D : DiskD) (new : List (List UInt8)) : LogD := ⟨D.sectors.length, recs D.sectors ++ new, (recs D.sectors).length⟩
theorem used_bound : ∀ (rs : List (List UInt8)), rs.length ≤ used rs
  | [] => Nat.le_refl _
  | b :: r => by have := secs_pos b.length; have := used_bound r; rw [used_cons, List.length_cons]; omega
theorem okL_logOf {D : DiskD} {new : List (List UInt8)} (hok : okB D = true) (hu : used (recs D.sectors ++ new) ≤ D.sectors.length) : okL (logOf D new) = true := by
  have hl := okB_sized hok
  unfold okB headOk at hok
  simp only [Bool.and_eq_true, decide_eq_true_eq] at hok
  unfold okL logOf
  simp only [Bool.and_eq_true, decide_eq_true_eq]
  rw [usedI_small (by omega), List.length_append]
  refine ⟨⟨⟨⟨by omega, by omega⟩, by omega⟩, by omega⟩, by omega⟩
theorem syncL_logOf {D : DiskD} {new : List (List UInt8)} (hr : runsB D = true) (hp : D.pending = []) (hg : genMax D.sectors + 1 < 4294967296) (hu : used (recs D.sectors ++ new) ≤ D.sectors.length) :
    syncL (logOf D new) D = if new = [] then (logOf D new, D, 0) else
      let r := syncD (wroteAt D (used (recs D.sectors)) (recsW (genMax D.sectors + 1) (used (recs D.sectors)) new))
      if r.2 = 0 then (⟨D.sectors.length, recs D.sectors ++ new, (recs D.sectors ++ new).length⟩, r.1, 0) else (zeroL, r.1, r.2) := by
  obtain ⟨hok, hst⟩ := runsB_iff.1 hr
  have hlk := okL_logOf hok hu
  rw [used_append] at hu
  unfold syncL
  rw [if_pos hlk, if_pos hok, hst]
  unfold logOf
  dsimp only
  rw [if_neg (by simp), if_neg (by simp [hp]), Int.toNat_natCast, List.take_left, List.drop_left, if_neg (by intro h; rcases h with h | h; exact h rfl; omega)]
  have hwo : wroteOr D (used (recs D.sectors)) (recsW (genMax D.sectors + 1) (used (recs D.sectors)) new) = wroteAt D (used (recs D.sectors)) (recsW (genMax D.sectors + 1) (used (recs D.sectors)) new) := by
    unfold wroteOr
    rw [if_pos (by rw [recsW_length]; exact hu)]
  rw [hwo]
  by_cases e : new = []
  · subst e
    rw [if_pos rfl, if_pos (by simp)]
  · rw [if_neg e, if_neg (by
      have : new.length ≠ 0 := fun h => e (List.eq_nil_of_length_eq_zero h)
      rw [List.length_append]; omega)]
theorem okB_of {D : DiskD} (h1 : 1 ≤ D.sectors.length) (h2 : D.sectors.length ≤ 4096) (h3 : D.pending = []) (h4 : -1 ≤ D.left) (h5 : D.left ≤ 65536) (h6 : Sized128 D.sectors) : okB D = true :=
  okB_iff.2 ⟨⟨h1, h2, by rw [h3]; simp, h4, h5⟩, h6, by rw [h3]; simp⟩
/-- all is written -/
theorem sync_all {D : DiskD} {new : List (List UInt8)} (hr : runsB D = true) (hp : D.pending = []) (hg : genMax D.sectors + 1 < 4294967296) (hu : used (recs D.sectors ++ new) ≤ D.sectors.length) (hx : ¬ (0 ≤ D.left ∧ D.left < used new)) :
    ∃ E, syncL (logOf D new) D = (⟨D.sectors.length, recs D.sectors ++ new, (recs D.sectors ++ new).length⟩, E, 0) ∧ runsB E = true ∧ E.pending = [] ∧ E.sectors = (if new = [] then D.sectors else newSecs D.sectors new (used new)) ∧ (D.left = -1 → E.left = -1) ∧
      E.sectors.length = D.sectors.length ∧ recs E.sectors = recs D.sectors ++ new ∧ genMax E.sectors ≤ genMax D.sectors + 1 := by
  rw [syncL_logOf hr hp hg hu]
  obtain ⟨hok, hst⟩ := runsB_iff.1 hr
  obtain ⟨hl, hsz⟩ := okB_sized hok
  by_cases e : new = []
  · subst e
    rw [if_pos rfl]
    refine ⟨D, ?_, hr, hp, by rw [if_pos rfl], fun h => h, rfl, (List.append_nil _).symm, Nat.le_succ _⟩
    unfold logOf
    simp
  · rw [if_neg e]
    rw [used_append] at hu
    have hlW := recsW_length (genMax D.sectors + 1) (used (recs D.sectors)) new
    have hrw := wroteAt_runs (a := used (recs D.sectors)) (ss := recsW (genMax D.sectors + 1) (used (recs D.sectors)) new) hok hst hp (by omega) recsW_sized
    have hpl : (wroteAt D (used (recs D.sectors)) (recsW (genMax D.sectors + 1) (used (recs D.sectors)) new)).pending.length = used new := by
      unfold wroteAt; rw [hp, List.nil_append, wrsAt_length, hlW]
    have hx2 : ¬ (0 ≤ (wroteAt D (used (recs D.sectors)) (recsW (genMax D.sectors + 1) (used (recs D.sectors)) new)).left ∧ (wroteAt D (used (recs D.sectors)) (recsW (genMax D.sectors + 1) (used (recs D.sectors)) new)).left < (wroteAt D (used (recs D.sectors)) (recsW (genMax D.sectors + 1) (used (recs D.sectors)) new)).pending.length) := by
      rw [hpl]; exact hx
    have hns : (synced (wroteAt D (used (recs D.sectors)) (recsW (genMax D.sectors + 1) (used (recs D.sectors)) new))).sectors = newSecs D.sectors new (used new) := by
      unfold synced wroteAt
      rw [hp, List.nil_append]
      dsimp only
      rw [perform_at _ _ _ (by omega), hlW]
      unfold newSecs
      rw [List.take_of_length_le (by omega : (recsW (genMax D.sectors + 1) (used (recs D.sectors)) new).length ≤ used new)]
    obtain ⟨f1, f2, f3, f4⟩ := newSecs_facts (ss := D.sectors) (new := new) (m := used new) hsz (by omega) hg (Nat.le_refl _) hu
    rw [cnt_all (Nat.le_refl _), List.take_length] at f3
    rw [syncD_go hrw hx2]
    refine ⟨_, if_pos rfl, runs_synced hrw hx2, rfl, by rw [hns, if_neg e], fun h => ?_, by rw [hns]; exact f1, by rw [hns]; exact f3, by rw [hns]; exact f4⟩
    unfold synced wroteAt
    dsimp only
    rw [if_neg (by omega)]; exact h
/-- a stop leaves a beginning -/
theorem sync_halt {D : DiskD} {new : List (List UInt8)} (hr : runsB D = true) (hp : D.pending = []) (hg : genMax D.sectors + 1 < 4294967296) (hu : used (recs D.sectors ++ new) ≤ D.sectors.length) (hx : 0 ≤ D.left ∧ D.left < used new) :
    ∃ E, syncL (logOf D new) D = (zeroL, E, 340) ∧ E.pending = [] ∧ Sized128 E.sectors ∧
      E.sectors.length = D.sectors.length ∧ recs E.sectors = recs D.sectors ++ new.take (cnt D.left.toNat new) ∧ genMax E.sectors ≤ genMax D.sectors + 1 := by
  rw [syncL_logOf hr hp hg hu]
  obtain ⟨hok, hst⟩ := runsB_iff.1 hr
  obtain ⟨hl, hsz⟩ := okB_sized hok
  have e : new ≠ [] := fun e => by subst e; rw [used_nil] at hx; omega
  rw [if_neg e]
  rw [used_append] at hu
  have hlW := recsW_length (genMax D.sectors + 1) (used (recs D.sectors)) new
  have hrw := wroteAt_runs (a := used (recs D.sectors)) (ss := recsW (genMax D.sectors + 1) (used (recs D.sectors)) new) hok hst hp (by omega) recsW_sized
  have hpl : (wroteAt D (used (recs D.sectors)) (recsW (genMax D.sectors + 1) (used (recs D.sectors)) new)).pending.length = used new := by
    unfold wroteAt; rw [hp, List.nil_append, wrsAt_length, hlW]
  have hx2 : 0 ≤ (wroteAt D (used (recs D.sectors)) (recsW (genMax D.sectors + 1) (used (recs D.sectors)) new)).left ∧ (wroteAt D (used (recs D.sectors)) (recsW (genMax D.sectors + 1) (used (recs D.sectors)) new)).left < (wroteAt D (used (recs D.sectors)) (recsW (genMax D.sectors + 1) (used (recs D.sectors)) new)).pending.length := by
    rw [hpl]; exact hx
  have hns : (halted (wroteAt D (used (recs D.sectors)) (recsW (genMax D.sectors + 1) (used (recs D.sectors)) new))).sectors = newSecs D.sectors new D.left.toNat := by
    unfold halted wroteAt
    rw [hp, List.nil_append]
    dsimp only
    rw [wrsAt_take, perform_at _ _ _ (by rw [List.length_take]; omega), take_len (by omega)]
    rfl
  obtain ⟨f1, f2, f3, f4⟩ := newSecs_facts (ss := D.sectors) (new := new) (m := D.left.toNat) hsz (by omega) hg (by omega) hu
  rw [syncD_stop hrw hx2]
  exact ⟨_, if_neg (by simp), rfl, by rw [hns]; exact f2, by rw [hns]; exact f1, by rw [hns]; exact f3, by rw [hns]; exact f4⟩
end Go.Proofs.Ytocjhepiooljpaa
/- Logs of new disks, appending and opening in plain Lean; the chapter's examples. -/
namespace Go.Proofs.Ytocjhepiooljpaa
open Go.RowKit Go.Shelf

theorem openL_runs {D : DiskD} (hr : runsB D = true) (hp : D.pending = []) : openL D = (logOf D [], 0) := by
  obtain ⟨hok, hst⟩ := runsB_iff.1 hr
  unfold openL logOf
  rw [if_pos hok, hst, if_neg (by simp), if_neg (by rw [hp]; simp), List.append_nil]
theorem appendL_logOf {D : DiskD} {new : List (List UInt8)} {b : List UInt8} (hok : okB D = true) (hu : used (recs D.sectors ++ new) ≤ D.sectors.length) (hb : b.length ≤ 140737488355328) :
    appendL (logOf D new) b = if used (recs D.sectors ++ new) + secs b.length ≤ D.sectors.length then (logOf D (new ++ [b]), 0) else (zeroL, 2) := by
  have hl := okB_sized hok
  have hs : secs b.length ≤ 140737488355329 := by have := secs_le b.length; omega
  unfold appendL
  rw [if_pos (okL_logOf hok hu)]
  unfold logOf
  dsimp only
  rw [usedI_small (by omega), IntWalk.wrap64_in _ (by omega), List.append_assoc]
  by_cases h : used (recs D.sectors ++ new) + secs b.length ≤ D.sectors.length
  · rw [if_pos h, if_neg (by omega)]
  · rw [if_neg h, if_pos (by omega)]
/-- a new disk -/
def freshD (n : Nat) : DiskD := ⟨List.replicate n zs128, [], -1, false⟩
theorem genS_zs : genS zs128 = 0 := by decide
theorem fresh_sized (n : Nat) : Sized128 (List.replicate n zs128) := fun s hs => by rw [(List.mem_replicate.1 hs).2]; exact zs128_length
theorem fresh_gen (n : Nat) : genMax (List.replicate n zs128) = 0 := Nat.le_zero.1 (genMax_le fun s hs => by rw [(List.mem_replicate.1 hs).2, genS_zs]; exact Nat.le_refl _)
theorem goodB_gen {s : List UInt8} (k : Nat) (h : genS s = 0) : goodB s k = false := by
  cases e : goodB s k with
  | false => rfl
  | true => exact absurd h (good_form e).2
theorem fresh_recs (n : Nat) : recs (List.replicate n zs128) = [] := by
  refine recsFrom_none ?_
  unfold recAt
  cases n with
  | zero => rfl
  | succ n =>
    rw [List.drop_zero, List.replicate_succ]
    refine recGo_bad ?_
    unfold fitS
    rw [goodB_gen 0 genS_zs]
    rfl
theorem fresh_runs {n : Nat} (h1 : 1 ≤ n) (h2 : n ≤ 4096) : runsB (freshD n) = true :=
  runsB_iff.2 ⟨okB_of (by simp [freshD]; omega) (by simp [freshD]; omega) rfl (by simp [freshD]) (by simp [freshD]) (fresh_sized n), rfl⟩
/-- the chapter's examples -/
structure Exs (D E ZD : DiskD) (L0 L1 L2 Z : LogD) : Prop where
  new : newD 1 = (D, 0)
  op : openL D = (L0, 0)
  bad : appendL L0 (List.replicate 117 0) = (Z, 2)
  app : appendL L0 [97, 98] = (L1, 0)
  sync : syncL L1 D = (L2, E, 0)
  op2 : openL E = (L2, 0)
  again : syncL L1 E = (Z, ZD, 350)
  room : roomL L0 = 116
  chk : chkL zeroL = 1
  rec0 : L0.recs = []
  rec1 : L1.recs = [[97, 98]]
  rec2 : L2.recs = [[97, 98]]
  syn2 : L2.synced = 1
theorem exs : ∃ D E ZD L0 L1 L2 Z, Exs D E ZD L0 L1 L2 Z := by
  have hr := fresh_runs (n := 1) (by omega) (by omega)
  have hok := (runsB_iff.1 hr).1
  have hrec : recs (freshD 1).sectors = [] := fresh_recs 1
  have hg : genMax (freshD 1).sectors = 0 := fresh_gen 1
  have hl : (freshD 1).sectors.length = 1 := rfl
  have hu0 : used (recs (freshD 1).sectors ++ []) ≤ (freshD 1).sectors.length := by rw [hrec]; decide
  have hu1 : used (recs (freshD 1).sectors ++ [[97, 98]]) ≤ (freshD 1).sectors.length := by rw [hrec]; decide
  obtain ⟨E, s1, s2, s3, s4, s5, s6, s7, s8⟩ := sync_all hr rfl (by omega) hu1 (by rintro ⟨h, -⟩; exact absurd h (by decide))
  rw [hl] at s6
  rw [hrec, hl] at s1
  rw [hrec] at s7
  refine ⟨freshD 1, E, zeroD, logOf (freshD 1) [], logOf (freshD 1) [[97, 98]], ⟨1, [[97, 98]], 1⟩, zeroL, newD_yes (n := 1) (by omega) (by omega), openL_runs hr rfl, ?_, ?_, s1, ?_, ?_, ?_, by decide, ?_, ?_, rfl, rfl⟩
  · rw [appendL_logOf hok hu0 (by simp), if_neg (by rw [hrec, hl, List.length_replicate]; decide)]
  · rw [appendL_logOf hok hu0 (by simp), if_pos (by rw [hrec, hl]; decide)]; rfl
  · rw [openL_runs s2 s3]
    unfold logOf
    rw [s6, s7]
    rfl
  · obtain ⟨hokE, hstE⟩ := runsB_iff.1 s2
    unfold syncL
    rw [if_pos (okL_logOf hok hu1), if_pos hokE, hstE, if_neg (by simp), if_neg (by rw [s3, s6]; simp [logOf, hl]), if_pos (.inl (by rw [s7]; simp [logOf, hrec]))]
  · unfold roomL chkL
    rw [okL_logOf hok hu0, if_pos rfl, if_pos rfl]
    unfold logOf
    rw [hrec, hl]
    show wrap64 (116 * wrap64 (1 - 0)) = 116
    simp only [wrap64]
    omega
  · show recs (freshD 1).sectors ++ [] = []
    rw [hrec]; rfl
  · show recs (freshD 1).sectors ++ [[97, 98]] = [[97, 98]]
    rw [hrec]; rfl
theorem fit_ab : FitR [[97, 98]] := ⟨by decide, fun i hi => by
  obtain rfl : i = 0 := by simp at hi; omega
  show [97, 98].length ≤ _
  simp⟩
theorem fit_nil : FitR [] := ⟨by decide, fun i hi => absurd hi (by simp)⟩
end Go.Proofs.Ytocjhepiooljpaa
/- Sync: its boxes, what it answers, the write of one sector. -/
namespace Go.Proofs.Ytocjhepiooljpaa
open Go.RowKit Go.Deep Go.Shelf

theorem MatC.take {w : World} {M : Nat → Prop} {A : Option Addr} {rs : List (List UInt8)} (h : MatC w M A rs) (k : Nat) : MatC w M A (rs.take k) := by
  obtain ⟨vs, h1, h2⟩ := h
  have hl : (rs.take k).length ≤ rs.length := by rw [List.length_take]; omega
  refine ⟨vs, fun h0 => ?_, fun i hi => ?_⟩
  · obtain ⟨b, off, e, hb, hc⟩ := h1 (by omega)
    exact ⟨b, off, e, hb, fun i j hi hj => hc i j (by omega) hj⟩
  · have := h2 i (by omega)
    rwa [List.getD_eq_getElem?_getD, List.getElem?_take_of_lt (by rw [List.length_take] at hi; omega), ← List.getD_eq_getElem?_getD]
theorem LensR.take {rs : List (List UInt8)} (h : LensR rs) (k : Nat) : LensR (rs.take k) := fun i hi => by
  rw [List.getElem_take]; exact h i _
def RetSync (w : World) (M : Nat → Prop) (r : LogD × DiskD × Int) (e : Ending) (w' : World) : Prop := ∃ lv dv, e = .returned (.tuple #[lv, dv, .int .i64 r.2.2]) ∧ IsLog w' (New M w) lv r.1 ∧ IsDisk w' (New M w) dv r.2.1 ∧ Below w.heap.size w w'
theorem RetSync.mk {w w' : World} {M : Nat → Prop} {lv dv : Value} {r : LogD × DiskD × Int} {l : LogD} {d : DiskD} {n : Int} (hl : IsLog w' (New M w) lv l) (hd : IsDisk w' (New M w) dv d) (hb : Below w.heap.size w w') (hr : r = (l, d, n)) : RetSync w M r (.returned (.tuple #[lv, dv, .int .i64 n])) w' := by
  subst hr; exact ⟨lv, dv, rfl, hl, hd, hb⟩
theorem belowN {B : Nat} {w w' : World} (h : Below B w w') (n : Nat) : Below B w (w'.drewN n) := ⟨h.os, h.tape, h.output, h.size, h.block⟩
/-- outside of k boxes from n on -/
def Bx (M : Nat → Prop) (n k : Nat) (b : Nat) : Prop := (M b ∧ b < n) ∨ n + k ≤ b
theorem Bx.new {M : Nat → Prop} {n k b : Nat} {W : World} (hs : n + k ≤ W.heap.size) (h : New (Bx M n k) W b) : Bx M n k b := by
  rcases h with h | h
  · exact h
  · exact .inr (by omega)
theorem Bx.out {M : Nat → Prop} {w : World} {k b : Nat} (h : Bx M w.heap.size k b) : New M w b := by
  rcases h with h | h
  · exact .inl h.1
  · exact .inr (by omega)
/-- what lies in the boxes of Sync -/
structure SyS (w : World) (M : Nat → Prop) (many : Int) (rA : Option Addr) (rc sy : Nat) (rs : List (List UInt8)) (x0 x1 x2 x3 : Value) (D : DiskD) (W : World) : Prop where
  b0 : W.heap[w.heap.size]? = some (.cells #[.int .i64 many, .slice rA rs.length rc, .int .i64 (sy : Int)] 29 (0, 0))
  b1 : W.heap[w.heap.size + 1]? = some (.cells #[x0, x1, x2, x3] 25 (0, 0))
  b2 : W.heap[w.heap.size + 1 + 1]? = some (.cells #[.int .i64 0, .slice none 0 0, .int .i64 0] 29 (0, 0))
  b3 : W.heap[w.heap.size + 1 + 1 + 1]? = some (.cells #[.slice none 0 0, .slice none 0 0, .int .i64 0, .bool false] 25 (0, 0))
  below : Below w.heap.size w W
  size : w.heap.size + 4 ≤ W.heap.size
  disk : IsDisk W (Bx M w.heap.size 4) (.agg #[x0, x1, x2, x3]) D
  mat : MatC W (Bx M w.heap.size 4) rA rs
section
variable {w W W' : World} {M : Nat → Prop} {many : Int} {rA : Option Addr} {rc sy : Nat} {rs : List (List UInt8)} {x0 x1 x2 x3 : Value} {D : DiskD}
theorem SyS.next (h : SyS w M many rA rc sy rs x0 x1 x2 x3 D W) (hb : Below W.heap.size W W') : SyS w M many rA rc sy rs x0 x1 x2 x3 D W' :=
  ⟨(hb.block _ (lt_heap h.b0)).trans h.b0, (hb.block _ (lt_heap h.b1)).trans h.b1, (hb.block _ (lt_heap h.b2)).trans h.b2, (hb.block _ (lt_heap h.b3)).trans h.b3, h.below.trans (hb.mono h.below.size), Nat.le_trans h.size hb.size, h.disk.below hb, h.mat.keep fun _ _ hp => hb.cell hp⟩
theorem SyS.cells (h : SyS w M many rA rc sy rs x0 x1 x2 x3 D W) : (W.cell? ⟨w.heap.size, 0, none⟩ = some (.int .i64 many) ∧ W.cell? ⟨w.heap.size, 1, none⟩ = some (.slice rA rs.length rc) ∧ W.cell? ⟨w.heap.size, 2, none⟩ = some (.int .i64 (sy : Int))) ∧
    W.cell? ⟨w.heap.size + 1, 0, none⟩ = some x0 ∧ W.cell? ⟨w.heap.size + 1, 1, none⟩ = some x1 ∧ W.cell? ⟨w.heap.size + 1, 2, none⟩ = some x2 ∧ W.cell? ⟨w.heap.size + 1, 3, none⟩ = some x3 :=
  ⟨⟨cell_of h.b0 rfl, cell_of h.b0 rfl, cell_of h.b0 rfl⟩, cell_of h.b1 rfl, cell_of h.b1 rfl, cell_of h.b1 rfl, cell_of h.b1 rfl⟩
/-- a disk is stored -/
theorem SyS.store (h : SyS w M many rA rc sy rs x0 x1 x2 x3 D W) {y0 y1 y2 y3 : Value} {E : DiskD} (hd : IsDisk W (Bx M w.heap.size 4) (.agg #[y0, y1, y2, y3]) E) :
    SyS w M many rA rc sy rs y0 y1 y2 y3 E ((((W.setCell ⟨w.heap.size + 1, 0, none⟩ y0).setCell ⟨w.heap.size + 1, 1, none⟩ y1).setCell ⟨w.heap.size + 1, 2, none⟩ y2).setCell ⟨w.heap.size + 1, 3, none⟩ y3) := by
  have hk : Off (w.heap.size + 1) W ((((W.setCell ⟨w.heap.size + 1, 0, none⟩ y0).setCell ⟨w.heap.size + 1, 1, none⟩ y1).setCell ⟨w.heap.size + 1, 2, none⟩ y2).setCell ⟨w.heap.size + 1, 3, none⟩ y3) := ((((Off.refl _ _).setCell 0 y0).setCell 1 y1).setCell 2 y2).setCell 3 y3
  have ho : ∀ k, k ≠ w.heap.size + 1 → ((((W.setCell ⟨w.heap.size + 1, 0, none⟩ y0).setCell ⟨w.heap.size + 1, 1, none⟩ y1).setCell ⟨w.heap.size + 1, 2, none⟩ y2).setCell ⟨w.heap.size + 1, 3, none⟩ y3).heap[k]? = W.heap[k]? := fun k hk => by
    rw [heap_set_if, if_neg hk, heap_set_if, if_neg hk, heap_set_if, if_neg hk, heap_set_if, if_neg hk]
  have hx : ∀ b, Bx M w.heap.size 4 b → b ≠ w.heap.size + 1 := fun b hb e => by
    rcases hb with hb | hb <;> omega
  refine ⟨(ho _ (by omega)).trans h.b0, set4 h.b1 _ _ _ _, (ho _ (by omega)).trans h.b2, (ho _ (by omega)).trans h.b3, ?_, by simp only [size_set]; exact h.size, hd.keep fun p hp _ => hk p (hx _ hp), h.mat.keep fun p hp _ => hk p (hx _ hp)⟩
  exact (((h.below.setCell (by simp) _).setCell (by simp) _).setCell (by simp) _).setCell (by simp) _
end

theorem cell_off {w : World} {g j : Nat} {u x : Value} {p : Addr} (hp : p.block ≠ g) (h : w.cell? p = some x) : (w.setCell ⟨g, j, none⟩ u).cell? p = some x := ((Off.refl g w).setCell j u p hp).trans h
theorem cell_dr {w : World} {x : Value} {p : Addr} (h : w.cell? p = some x) : w.drew.cell? p = some x := h
theorem SyS.ret {w W : World} {M : Nat → Prop} {many : Int} {rA : Option Addr} {rc sy : Nat} {rs : List (List UInt8)} {x0 x1 x2 x3 : Value} {D : DiskD} (h : SyS w M many rA rc sy rs x0 x1 x2 x3 D W) {m r s y0 y1 y2 y3 : Value} {L : LogD} {E : DiskD}
    (hl : IsLog W (Bx M w.heap.size 4) (.agg #[m, r, s]) L) (hd : IsDisk W (Bx M w.heap.size 4) (.agg #[y0, y1, y2, y3]) E) {W' : World}
    (hW : W' = (((((((W.setCell ⟨w.heap.size + 1 + 1, 0, none⟩ m).setCell ⟨w.heap.size + 1 + 1, 1, none⟩ r).setCell ⟨w.heap.size + 1 + 1, 2, none⟩ s).setCell ⟨w.heap.size + 1 + 1 + 1, 0, none⟩ y0).setCell ⟨w.heap.size + 1 + 1 + 1, 1, none⟩ y1).setCell ⟨w.heap.size + 1 + 1 + 1, 2, none⟩ y2).setCell ⟨w.heap.size + 1 + 1 + 1, 3, none⟩ y3)) :
    ((W'.cell? ⟨w.heap.size + 1 + 1, 0, none⟩ = some m ∧ W'.cell? ⟨w.heap.size + 1 + 1, 1, none⟩ = some r ∧ W'.cell? ⟨w.heap.size + 1 + 1, 2, none⟩ = some s) ∧
      W'.cell? ⟨w.heap.size + 1 + 1 + 1, 0, none⟩ = some y0 ∧ W'.cell? ⟨w.heap.size + 1 + 1 + 1, 1, none⟩ = some y1 ∧ W'.cell? ⟨w.heap.size + 1 + 1 + 1, 2, none⟩ = some y2 ∧ W'.cell? ⟨w.heap.size + 1 + 1 + 1, 3, none⟩ = some y3) ∧
      IsLog W' (New M w) (.agg #[m, r, s]) L ∧ IsDisk W' (New M w) (.agg #[y0, y1, y2, y3]) E ∧ Below w.heap.size w W' := by
  have hb2 : W'.heap[w.heap.size + 1 + 1]? = some (.cells #[m, r, s] 29 (0, 0)) := by
    have := Blk_set (Blk_set (Blk_set h.b2 (j := 0) m) (j := 1) r) (j := 2) s
    rw [hW, heap_set_if, if_neg (by omega), heap_set_if, if_neg (by omega), heap_set_if, if_neg (by omega), heap_set_if, if_neg (by omega), this]
    rfl
  have hb3 : W'.heap[w.heap.size + 1 + 1 + 1]? = some (.cells #[y0, y1, y2, y3] 25 (0, 0)) := by
    rw [hW]
    refine set4 ?_ _ _ _ _ (a := .slice none 0 0) (b := .slice none 0 0) (c := .int .i64 0) (d := .bool false)
    rw [heap_set_if, if_neg (by omega), heap_set_if, if_neg (by omega), heap_set_if, if_neg (by omega)]
    exact h.b3
  have hx : ∀ p : Addr, Bx M w.heap.size 4 p.block → W'.cell? p = W.cell? p := fun p hp => by
    have h2 : p.block ≠ w.heap.size + 1 + 1 := fun e => by rcases hp with hb | hb <;> omega
    have h3 : p.block ≠ w.heap.size + 1 + 1 + 1 := fun e => by rcases hp with hb | hb <;> omega
    rw [hW]
    have e1 : Off (w.heap.size + 1 + 1) W _ := (((Off.refl _ _).setCell 0 m).setCell 1 r).setCell 2 s
    refine Eq.trans ?_ (e1 p h2)
    exact ((((Off.refl (w.heap.size + 1 + 1 + 1) _).setCell 0 y0).setCell 1 y1).setCell 2 y2).setCell 3 y3 p h3
  refine ⟨⟨⟨cell_of hb2 rfl, cell_of hb2 rfl, cell_of hb2 rfl⟩, cell_of hb3 rfl, cell_of hb3 rfl, cell_of hb3 rfl, cell_of hb3 rfl⟩, (hl.keep fun p hp _ => hx p hp).mono fun b _ hb => hb.out, (hd.keep fun p hp _ => hx p hp).mono fun b _ hb => hb.out, ?_⟩
  rw [hW]
  refine Below.setCell (Below.setCell (Below.setCell (Below.setCell (Below.setCell (Below.setCell (Below.setCell h.below ?_ _) ?_ _) ?_ _) ?_ _) ?_ _) ?_ _) ?_ _ <;> (simp; try omega)
/-- the number of synced records is stored -/
theorem SyS.mark {w W : World} {M : Nat → Prop} {many : Int} {rA : Option Addr} {rc sy : Nat} {rs : List (List UInt8)} {x0 x1 x2 x3 : Value} {D : DiskD} (h : SyS w M many rA rc sy rs x0 x1 x2 x3 D W) (t : Nat) :
    SyS w M many rA rc t rs x0 x1 x2 x3 D (W.setCell ⟨w.heap.size, 2, none⟩ (.int .i64 (t : Int))) := by
  have hx : ∀ p : Addr, Bx M w.heap.size 4 p.block → (W.setCell ⟨w.heap.size, 2, none⟩ (.int .i64 (t : Int))).cell? p = W.cell? p := fun p hp => (Off.refl _ _).setCell 2 _ p (fun e => by rcases hp with hb | hb <;> omega)
  refine ⟨Blk_set h.b0 (j := 2) _, ?_, ?_, ?_, h.below.setCell (by simp) _, by simp only [size_set]; exact h.size, h.disk.keep fun p hp _ => hx p hp, h.mat.keep fun p hp _ => hx p hp⟩
  · rw [heap_set_if, if_neg (by omega)]; exact h.b1
  · rw [heap_set_if, if_neg (by omega)]; exact h.b2
  · rw [heap_set_if, if_neg (by omega)]; exact h.b3
/-- such boxes, whatever disk value lies there -/
def SyE (w : World) (M : Nat → Prop) (many : Int) (rA : Option Addr) (rc sy : Nat) (rs : List (List UInt8)) (D : DiskD) (W : World) : Prop := ∃ x0 x1 x2 x3, SyS w M many rA rc sy rs x0 x1 x2 x3 D W
theorem recs_at {rs : List (List UInt8)} {sy i : Nat} (hs : sy ≤ i) (h : i < rs.length) : ∃ h', (rs.drop sy)[i - sy]'h' = rs[i] := ⟨by rw [List.length_drop]; omega, by rw [List.getElem_drop]; congr 1; omega⟩
theorem kindB_of (j n : Nat) {be en : Bool} (hbe : be = decide (j = 0)) (hen : en = decide (j + 1 = n)) : kindB be en = kindOf j n := by
  subst hbe hen
  unfold kindB kindOf
  simp only [decide_eq_true_eq]
theorem used_le_take {rs : List (List UInt8)} {i j : Nat} (hi : i < rs.length) (hj : j < secs (rs[i]).length) : used (rs.take i) + j < used rs := by
  have h1 := used_take hi
  have h2 : used rs = used (rs.take (i + 1)) + used (rs.drop (i + 1)) := by rw [← used_append, List.take_append_drop]
  omega
/-- the write of one sector -/
theorem next_write {d : DiskD} {t0 g i j : Nat} {S new : List (List UInt8)} {z : Int} {be en : Bool} (hok : okB d = true) (hst : d.stopped = false) (hp : d.pending = []) (hS : S = recsW g t0 new) (hi : i < new.length) (hj : j < secs (new[i]).length)
    (hz : t0 + (used (new.take i) + j) ≤ d.sectors.length → z = ((t0 + (used (new.take i) + j) : Nat) : Int)) (hbe : be = decide (j = 0)) (hen : en = decide (j + 1 = secs (new[i]).length)) :
    writeD (wroteOr d t0 (S.take (used (new.take i) + j))) z (secOf g (IntKind.u64.wrap z).toNat (kindB be en) (pieceOf new[i] j)) = (wroteOr d t0 (S.take (used (new.take i) + (j + 1))), if t0 + (used (new.take i) + j) < d.sectors.length then 0 else 340) := by
  have hl := okB_sized hok
  rw [← Nat.add_assoc (used (new.take i))]
  refine wrote_next hok hst hp (by rw [hS]; exact recsW_sized) (by rw [hS, recsW_length]; exact used_le_take hi hj) fun h => ?_
  have e := hz h
  refine ⟨e, ?_⟩
  rw [hS, recsW_at hi hj]
  unfold secK
  have hw : (IntKind.u64.wrap z).toNat = t0 + used (new.take i) + j := by
    rw [e, IntKind.wrap_u64]; omega
  rw [hw, kindB_of j _ hbe hen]
theorem pieceOf_length (b : List UInt8) (j : Nat) : (pieceOf b j).length = min 116 (b.length - 116 * j) := by unfold pieceOf; rw [List.length_take, List.length_drop]
theorem piece_mem {w : World} {M : Nat → Prop} {A : Option Addr} {bs : List UInt8} {c j : Nat} (h : BytesC w M A bs) (hc : bs.length ≤ c) : BytesC w M (if c = j * 116 then A else Option.map (fun x => x.add (j * 116)) A) (pieceOf bs j) := fun h0 => by
  have hl := pieceOf_length bs j
  obtain ⟨b, off, e, hb, hx⟩ := h (by omega)
  subst e
  rw [if_neg (by omega)]
  refine ⟨b, off + j * 116, by simp [Addr.add], hb, fun i t hi ht => ?_⟩
  have := hx (j * 116 + i) t (by omega) ht
  rw [show off + (j * 116 + i) * 1 + t = off + j * 116 + i * 1 + t by omega] at this
  rw [this]
  show some (byt _) = some (byt _)
  congr 2
  unfold pieceOf
  rw [List.getD_eq_getElem?_getD, List.getD_eq_getElem?_getD, List.getElem?_take_of_lt (by omega), List.getElem?_drop, Nat.mul_comm 116]
theorem piece_len {b : List UInt8} {j : Nat} (hj : j * 116 ≤ b.length) : ((if ((j : Int) + 1) * 116 < (b.length : Int) then ((j : Int) + 1) * 116 else (b.length : Int)).toNat - j * 116) = (pieceOf b j).length := by
  rw [pieceOf_length]
  split <;> omega
theorem syncL_go {l : LogD} {d : DiskD} {sy : Nat} (hlok : okL l = true) (hok : okB d = true) (hst : d.stopped = false) (hm : l.many = d.sectors.length) (hp : d.pending = []) (hsy : l.synced = (sy : Int)) :
    syncL l d = if recs d.sectors ≠ l.recs.take sy ∨ 4294967296 ≤ genMax d.sectors + 1 then (zeroL, zeroD, 350) else if sy = l.recs.length then (l, d, 0) else
      let r := syncD (wroteOr d (used (recs d.sectors)) (recsW (genMax d.sectors + 1) (used (recs d.sectors)) (l.recs.drop sy)))
      if r.2 = 0 then (⟨l.many, l.recs, l.recs.length⟩, r.1, 0) else (zeroL, r.1, r.2) := by
  unfold syncL
  rw [if_pos hlok, if_pos hok, hst, if_neg (by simp), if_neg (by simp [hm, hp]), hsy, Int.toNat_natCast]
  simp only [Int.natCast_inj]

end Go.Proofs.Ytocjhepiooljpaa
