import Derived.Test.YthlnfjbedehjdaaZb
import Derived.BigQuiet
import Derived.Test.YthlnfjbedehjdaaTk
/- slices.Index, Contains and Equal at ints; the reference's member and same. -/
namespace Go.Proofs.Ythlnfjbedehjdaa
open Go.RowKit Go.Shelf

theorem bDrewN {B : Nat} {a w : World} (h : Below B a w) (n : Nat) : Below B a (w.drewN n) := h.trans ⟨rfl, rfl, rfl, Nat.le_refl _, fun _ _ => rfl⟩
theorem index_any (w : World) (M : Nat → Prop) (v : Value) (l : List Int) (h : IsInts w M v l) (x : Int) (hlen : l.length ≤ 140737488355328) :
    Calls Try.prog 79 #[v, .int .i64 x] w fun e w' => e = .returned (.int .i64 (idxI l x)) ∧ w = w' := by
  have H := Lib.hid h
  obtain ⟨A, c, rfl, h1, h2, -⟩ := h
  obtain ⟨n, hn⟩ : ∃ n, n = l.length := ⟨_, rfl⟩
  have HN := Lib.hid hn
  rw [← hn] at hlen
  rw [← hn]
  clear hn h1 h2
  skip
  go_enter Try.func79, Try.ntmps79
  go_wp2_with fail
  go_loop [8] (fun i => ∃ k : Nat, k ≤ n ∧ i = .int .i64 k ∧ Hid (noneTo (fun i => nthI l i == x) k)) (fun i => n - (intOf i).toNat)
  case atStart => exact ⟨0, Nat.zero_le _, rfl, Lib.hid (fun j hj => absurd hj (by omega))⟩
  case round =>
    obtain ⟨k, hk, rfl, HO⟩ := hrel
    by_cases hlt : k < n
    · obtain ⟨b, off, rfl, hbl, hck⟩ := H.out.at_ (Below.refl _ _) (show k < l.length by rw [← HN.out]; exact hlt)
      have hlt' : (k : Int) < (n : Int) := by omega
      have hk0 : (0 : Int) ≤ (k : Int) := by omega
      obtain ⟨y, hy⟩ : ∃ y, nthI l k = y := ⟨_, rfl⟩
      rw [hy] at hck
      by_cases hxy : y = x
      · have HS := Lib.hid (idxF_some (p := fun i => nthI l i == x) (show k < l.length by rw [← HN.out]; exact hlt) (by rw [hy]; simpa using hxy) HO.out)
        have ht : (x == y) = true := by simp [hxy]
        clear hxy hy
        go_wp2_with fail
        go_ret
        exact ⟨ret_int HS.out.symm, rfl⟩
      · have HS := Lib.hid (noneTo_succ HO.out (show (nthI l k == x) = false by rw [hy]; simpa using hxy))
        have ht : (x == y) = false := by simpa using fun e => hxy e.symm
        clear hxy hy
        go_wp2_with fail
        go_round
        case rel => exact ⟨k + 1, by omega, by go_num, HS⟩
        case measure => simp [intOf]; omega
    · have hnl : ¬ (k : Int) < (n : Int) := by omega
      obtain rfl : k = n := by omega
      have HS := Lib.hid (idxF_none (p := fun i => nthI l i == x) HO.out)
      rw [HN.out] at HS
      go_wp2_with fail
      go_ret
      exact ⟨ret_int HS.out.symm, rfl⟩
theorem contains_any (w : World) (M : Nat → Prop) (v : Value) (l : List Int) (h : IsInts w M v l) (x : Int) (hlen : l.length ≤ 140737488355328) :
    Calls Try.prog 53 #[v, .int .i64 x] w fun e w' => e = .returned (.bool (l.contains x)) ∧ w = w' := by
  have C := Lib.hid (index_any w M v l h x hlen)
  obtain ⟨A, c, rfl, h1, h2, -⟩ := h
  clear h1 h2
  rw [← idxI_has]
  generalize idxI l x = z at C ⊢
  generalize l.length = n at C ⊢
  go_enter Try.func53, Try.ntmps53
  go_wp2_with fail
  refine C.out.mono ?_
  rintro e w' ⟨rfl, rfl⟩
  go_wp2_with fail
  go_ret
  exact ⟨rfl, rfl⟩
theorem rmember_z (w : World) (M : Nat → Prop) (v : Value) (l : List Int) (h : IsInts w M v l) (x : Int) (hlen : l.length ≤ 140737488355328) (z : Bool) (hz : z = decide (0 ≤ idxI l x)) :
    Calls Try.prog 58 #[v, .int .i64 x] w fun e w' => e = .returned (.bool z) ∧ w = w' := by
  have H := Lib.hid h
  obtain ⟨A, c, rfl, h1, h2, -⟩ := h
  obtain ⟨n, hn⟩ : ∃ n, n = l.length := ⟨_, rfl⟩
  have HN := Lib.hid hn
  rw [← hn] at hlen
  rw [← hn]
  clear hn h1 h2
  have HZ := Lib.hid hz
  clear hz
  go_enter Try.func58, Try.ntmps58
  go_wp2_with fail
  go_loop [5] (fun i => ∃ k : Nat, k ≤ n ∧ i = .int .i64 k ∧ Hid (noneTo (fun i => nthI l i == x) k)) (fun i => n - (intOf i).toNat)
  case atStart => exact ⟨0, Nat.zero_le _, rfl, Lib.hid (fun j hj => absurd hj (by omega))⟩
  case round =>
    obtain ⟨k, hk, rfl, HO⟩ := hrel
    by_cases hlt : k < n
    · obtain ⟨b, off, rfl, hbl, hck⟩ := H.out.at_ (Below.refl _ _) (show k < l.length by rw [← HN.out]; exact hlt)
      have hlt' : (k : Int) < (n : Int) := by omega
      have hk0 : (0 : Int) ≤ (k : Int) := by omega
      obtain ⟨y, hy⟩ : ∃ y, nthI l k = y := ⟨_, rfl⟩
      rw [hy] at hck
      by_cases hxy : y = x
      · have HS := Lib.hid (idxF_some (p := fun i => nthI l i == x) (show k < l.length by rw [← HN.out]; exact hlt) (by rw [hy]; simpa using hxy) HO.out)
        have ht : (y == x) = true := by simp [hxy]
        clear hxy hy
        go_wp2_with fail
        go_ret
        exact ⟨ret_bool (HZ.out.trans (by unfold idxI; rw [HS.out]; simp)).symm, rfl⟩
      · have HS := Lib.hid (noneTo_succ HO.out (show (nthI l k == x) = false by rw [hy]; simpa using hxy))
        have ht : (y == x) = false := by simpa using hxy
        clear hxy hy
        go_wp2_with fail
        go_round
        case rel => exact ⟨k + 1, by omega, by go_num, HS⟩
        case measure => simp [intOf]; omega
    · have hnl : ¬ (k : Int) < (n : Int) := by omega
      obtain rfl : k = n := by omega
      have HS := Lib.hid (idxF_none (p := fun i => nthI l i == x) HO.out)
      rw [HN.out] at HS
      go_wp2_with fail
      go_ret
      exact ⟨ret_bool (HZ.out.trans (by unfold idxI; rw [HS.out]; rfl)).symm, rfl⟩
theorem rmember_any (w : World) (M : Nat → Prop) (v : Value) (l : List Int) (h : IsInts w M v l) (x : Int) (hlen : l.length ≤ 140737488355328) :
    Calls Try.prog 58 #[v, .int .i64 x] w fun e w' => e = .returned (.bool (l.contains x)) ∧ w = w' := rmember_z w M v l h x hlen _ (idxI_has l x).symm
theorem equal_any (w : World) (M M' : Nat → Prop) (v v' : Value) (l l' : List Int) (h : IsInts w M v l) (h' : IsInts w M' v' l') (hlen : l.length ≤ 140737488355328) :
    Calls Try.prog 55 #[v, v'] w fun e w' => e = .returned (.bool (l == l')) ∧ Below w.heap.size w w' := by
  have H := Lib.hid h
  have H' := Lib.hid h'
  obtain ⟨A, c, rfl, h1, h2, -⟩ := h
  obtain ⟨A', c', rfl, h1', h2', -⟩ := h'
  obtain ⟨n, hn⟩ : ∃ n, n = l.length := ⟨_, rfl⟩
  obtain ⟨m, hm⟩ : ∃ m, m = l'.length := ⟨_, rfl⟩
  have HN := Lib.hid hn
  have HM := Lib.hid hm
  rw [← hn] at hlen
  rw [← hn, ← hm]
  clear hn hm h1 h2 h1' h2'
  go_enter Try.func55, Try.ntmps55
  by_cases hnm : n = m
  case neg =>
    have HQ := Lib.hid (show (l == l') = false by rw [beq_eq_false_iff_ne]; intro e; exact hnm (by rw [HN.out, HM.out, e]))
    have d1 : ((n : Int) == (m : Int)) = false := by rw [beq_eq_false_iff_ne]; omega
    have d2 : ((n : Int) != (m : Int)) = true := by rw [bne_iff_ne]; omega
    clear hnm
    go_wp2_with fail
    go_ret
    exact ⟨ret_bool HQ.out.symm, Below.refl _ _⟩
  subst hnm
  go_wp2_with fail
  go_loopw [13] (fun i wr => ∃ k : Nat, k ≤ n ∧ i = .int .i64 k ∧ Hid (∀ j, j < k → nthI l j = nthI l' j) ∧ Hid (Below w.heap.size w wr)) (fun i _ => n - (intOf i).toNat)
  case atStart => exact ⟨0, Nat.zero_le _, rfl, Lib.hid (fun j hj => absurd hj (by omega)), Lib.hid (Below.refl _ _)⟩
  case round =>
    obtain ⟨k, hk, rfl, HO, HB⟩ := hrel
    by_cases hlt : k < n
    · obtain ⟨b, off, rfl, hbl, hck⟩ := H.out.at_ HB.out (show k < l.length by rw [← HN.out]; exact hlt)
      obtain ⟨b', off', rfl, hbl', hck'⟩ := H'.out.at_ HB.out (show k < l'.length by rw [← HM.out]; exact hlt)
      have hlt' : (k : Int) < (n : Int) := by omega
      have hk0 : (0 : Int) ≤ (k : Int) := by omega
      by_cases hxy : nthI l k = nthI l' k
      · have HS := Lib.hid (show ∀ j, j < k + 1 → nthI l j = nthI l' j from fun j hj => by
          rcases Nat.lt_or_ge j k with h | h
          · exact HO.out j h
          · rw [show j = k by omega]; exact hxy)
        obtain ⟨y, hy⟩ : ∃ y, nthI l k = y := ⟨_, rfl⟩
        rw [← hxy] at hck'
        rw [hy] at hck hck'
        clear hxy hy
        go_wp2_with fail
        go_quiet (fail)
        go_wp2_with fail
        go_roundw
        case rel => exact ⟨k + 1, by omega, by go_num, HS, Lib.hid (bDrewN HB.out _)⟩
        case measure => simp [intOf]; omega
      · have HS := Lib.hid (show (l == l') = false by rw [beq_eq_false_iff_ne]; intro e; exact hxy (by rw [e]))
        obtain ⟨y, hy⟩ : ∃ y, nthI l k = y := ⟨_, rfl⟩
        obtain ⟨z, hz⟩ : ∃ z, nthI l' k = z := ⟨_, rfl⟩
        rw [hy] at hck hxy
        rw [hz] at hck' hxy
        have ht : (y == z) = false := by simpa using hxy
        have ht2 : (y != z) = true := by simpa using hxy
        clear hxy hy hz
        go_wp2_with fail
        go_quiet (fail)
        go_wp2_with fail
        go_ret
        exact ⟨ret_bool HS.out.symm, bDrewN HB.out _⟩
    · have hnl : ¬ (k : Int) < (n : Int) := by omega
      obtain rfl : k = n := by omega
      have HS := Lib.hid (show (l == l') = true by
        rw [beq_iff_eq]
        refine List.ext_getElem (by rw [← HN.out, ← HM.out]) fun j hj hj' => ?_
        have := HO.out j (by rw [HN.out]; exact hj)
        rwa [nthI_get hj, nthI_get hj'] at this)
      go_wp2_with fail
      go_ret
      exact ⟨ret_bool HS.out.symm, HB.out⟩
theorem rsame_any (w : World) (M M' : Nat → Prop) (v v' : Value) (l l' : List Int) (h : IsInts w M v l) (h' : IsInts w M' v' l') (hlen : l.length ≤ 140737488355328) :
    Calls Try.prog 60 #[v, v'] w fun e w' => e = .returned (.bool (l == l')) ∧ Below w.heap.size w w' := by
  have H := Lib.hid h
  have H' := Lib.hid h'
  obtain ⟨A, c, rfl, h1, h2, -⟩ := h
  obtain ⟨A', c', rfl, h1', h2', -⟩ := h'
  obtain ⟨n, hn⟩ : ∃ n, n = l.length := ⟨_, rfl⟩
  obtain ⟨m, hm⟩ : ∃ m, m = l'.length := ⟨_, rfl⟩
  have HN := Lib.hid hn
  have HM := Lib.hid hm
  rw [← hn] at hlen
  rw [← hn, ← hm]
  clear hn hm h1 h2 h1' h2'
  go_enter Try.func60, Try.ntmps60
  by_cases hnm : n = m
  case neg =>
    have HQ := Lib.hid (show (l == l') = false by rw [beq_eq_false_iff_ne]; intro e; exact hnm (by rw [HN.out, HM.out, e]))
    have d1 : ((n : Int) == (m : Int)) = false := by rw [beq_eq_false_iff_ne]; omega
    have d2 : ((n : Int) != (m : Int)) = true := by rw [bne_iff_ne]; omega
    clear hnm
    go_wp2_with fail
    go_ret
    exact ⟨ret_bool HQ.out.symm, Below.refl _ _⟩
  subst hnm
  go_wp2_with fail
  go_loopw [5] (fun i wr => ∃ k : Nat, k ≤ n ∧ i = .int .i64 k ∧ Hid (∀ j, j < k → nthI l j = nthI l' j) ∧ Hid (Below w.heap.size w wr)) (fun i _ => n - (intOf i).toNat)
  case atStart => exact ⟨0, Nat.zero_le _, rfl, Lib.hid (fun j hj => absurd hj (by omega)), Lib.hid (Below.refl _ _)⟩
  case round =>
    obtain ⟨k, hk, rfl, HO, HB⟩ := hrel
    by_cases hlt : k < n
    · obtain ⟨b, off, rfl, hbl, hck⟩ := H.out.at_ HB.out (show k < l.length by rw [← HN.out]; exact hlt)
      obtain ⟨b', off', rfl, hbl', hck'⟩ := H'.out.at_ HB.out (show k < l'.length by rw [← HM.out]; exact hlt)
      have hlt' : (k : Int) < (n : Int) := by omega
      have hk0 : (0 : Int) ≤ (k : Int) := by omega
      by_cases hxy : nthI l k = nthI l' k
      · have HS := Lib.hid (show ∀ j, j < k + 1 → nthI l j = nthI l' j from fun j hj => by
          rcases Nat.lt_or_ge j k with h | h
          · exact HO.out j h
          · rw [show j = k by omega]; exact hxy)
        obtain ⟨y, hy⟩ : ∃ y, nthI l k = y := ⟨_, rfl⟩
        rw [← hxy] at hck'
        rw [hy] at hck hck'
        clear hxy hy
        go_wp2_with fail
        go_quiet (fail)
        go_wp2_with fail
        go_roundw
        case rel => exact ⟨k + 1, by omega, by go_num, HS, Lib.hid (bDrewN HB.out _)⟩
        case measure => simp [intOf]; omega
      · have HS := Lib.hid (show (l == l') = false by rw [beq_eq_false_iff_ne]; intro e; exact hxy (by rw [e]))
        obtain ⟨y, hy⟩ : ∃ y, nthI l k = y := ⟨_, rfl⟩
        obtain ⟨z, hz⟩ : ∃ z, nthI l' k = z := ⟨_, rfl⟩
        rw [hy] at hck hxy
        rw [hz] at hck' hxy
        have ht : (y == z) = false := by simpa using hxy
        have ht2 : (y != z) = true := by simpa using hxy
        clear hxy hy hz
        go_wp2_with fail
        go_quiet (fail)
        go_wp2_with fail
        go_ret
        exact ⟨ret_bool HS.out.symm, bDrewN HB.out _⟩
    · have hnl : ¬ (k : Int) < (n : Int) := by omega
      obtain rfl : k = n := by omega
      have HS := Lib.hid (show (l == l') = true by
        rw [beq_iff_eq]
        refine List.ext_getElem (by rw [← HN.out, ← HM.out]) fun j hj hj' => ?_
        have := HO.out j (by rw [HN.out]; exact hj)
        rwa [nthI_get hj, nthI_get hj'] at this)
      go_wp2_with fail
      go_ret
      exact ⟨ret_bool HS.out.symm, HB.out⟩
end Go.Proofs.Ythlnfjbedehjdaa
/- Cuts in plain Lean: when a cut fits a race. No program here. -/
namespace Go.Proofs.Ythlnfjbedehjdaa
structure CutD where
  free : List Int
  clubs : List Int
  games : List Int
/-- an open game that counts for a cut -/
def hitB (q : RaceD) (certain : Bool) (cl : List Int) (i : Nat) : Bool :=
  (cl.contains (nthE q.opn i).1 && cl.contains (nthE q.opn i).2) || (certain && (cl.contains (nthE q.opn i).1 || cl.contains (nthE q.opn i).2))
/-- the games that count among the first k -/
def gamesTo (q : RaceD) (certain : Bool) (cl : List Int) (k : Nat) : List Int := ((List.range k).filter (hitB q certain cl)).map fun (i : Nat) => (i : Int)
theorem gamesTo_zero (q : RaceD) (certain : Bool) (cl : List Int) : gamesTo q certain cl 0 = [] := rfl
theorem gamesTo_yes {q : RaceD} {certain : Bool} {cl : List Int} {k : Nat} (h : hitB q certain cl k = true) : gamesTo q certain cl (k + 1) = gamesTo q certain cl k ++ [(k : Int)] := by
  unfold gamesTo
  rw [List.range_succ, List.filter_append, List.map_append]
  simp [h]
theorem gamesTo_no {q : RaceD} {certain : Bool} {cl : List Int} {k : Nat} (h : hitB q certain cl k = false) : gamesTo q certain cl (k + 1) = gamesTo q certain cl k := by
  unfold gamesTo
  rw [List.range_succ, List.filter_append, List.map_append]
  simp [h]
theorem gamesTo_le (q : RaceD) (certain : Bool) (cl : List Int) (k : Nat) : (gamesTo q certain cl k).length ≤ k := by
  unfold gamesTo
  rw [List.length_map]
  exact Nat.le_trans (List.length_filter_le _ _) (Nat.le_of_eq List.length_range)
/-- the club takes part in an open game -/
def ownB (q : RaceD) (i : Nat) : Bool := decide ((nthE q.opn i).1 = q.club) || decide ((nthE q.opn i).2 = q.club)
/-- the club's points if it wins its games among the first k -/
def highTo (q : RaceD) : Nat → Int
  | 0 => nthI q.points q.club.toNat
  | k + 1 => if ownB q k then highTo q k + q.win else highTo q k
def lowR (q : RaceD) : Int := nthI q.points q.club.toNat
def highR (q : RaceD) : Int := highTo q q.opn.length
/-- what a club of a cut counts for -/
def needR (q : RaceD) (i : Int) : Int := max 0 (-((nthI q.points i.toNat - lowR q) / q.draw))
def roomR (q : RaceD) (i : Int) : Int := (highR q - nthI q.points i.toNat) / q.draw
def countR (q : RaceD) (certain : Bool) (i : Int) : Int := if certain then needR q i else -roomR q i
def sumTo (q : RaceD) (certain : Bool) (cl : List Int) : Nat → Int
  | 0 => 0
  | k + 1 => sumTo q certain cl k + countR q certain (nthI cl k)
/-- the clubs lie on the right side of Free -/
def sideTo (free : List Int) (certain : Bool) (cl : List Int) (k : Nat) : Prop := ∀ j, j < k → free.contains (nthI cl j) = certain
instance (free : List Int) (certain : Bool) (cl : List Int) (k : Nat) : Decidable (sideTo free certain cl k) := by unfold sideTo; infer_instance
theorem sideTo_zero {free : List Int} {certain : Bool} {cl : List Int} : sideTo free certain cl 0 := fun j hj => absurd hj (by omega)
theorem sideTo_succ {free : List Int} {certain : Bool} {cl : List Int} {k : Nat} (h : sideTo free certain cl k) (hk : free.contains (nthI cl k) = certain) : sideTo free certain cl (k + 1) := fun j hj => by
  rcases Nat.lt_or_ge j k with h1 | h1
  · exact h j h1
  · rw [show j = k by omega]; exact hk
/-- what the sum must exceed -/
def overB (q : RaceD) (certain : Bool) (cl : List Int) : Bool :=
  decide ((if certain then 2 * ((gamesTo q certain cl q.opn.length).length : Int) else 0) < sumTo q certain cl cl.length + (if certain then 0 else 2 * ((gamesTo q certain cl q.opn.length).length : Int)))
/-- a cut fits -/
structure FitR (q : RaceD) (certain : Bool) (c : CutD) : Prop where
  halves : halvesB q = true
  free : setB q c.free = true
  clubs : setB q c.clubs = true
  some : c.clubs ≠ []
  size : (c.free.length : Int) = sizeK q certain
  side : sideTo c.free certain c.clubs c.clubs.length
  games : gamesTo q certain c.clubs q.opn.length = c.games
  over : overB q certain c.clubs = true
instance (q : RaceD) (certain : Bool) (c : CutD) : Decidable (FitR q certain c) :=
  decidable_of_iff (halvesB q = true ∧ setB q c.free = true ∧ setB q c.clubs = true ∧ c.clubs ≠ [] ∧ (c.free.length : Int) = sizeK q certain ∧ sideTo c.free certain c.clubs c.clubs.length ∧ gamesTo q certain c.clubs q.opn.length = c.games ∧ overB q certain c.clubs = true)
    ⟨fun ⟨a, b, c, d, e, f, g, h⟩ => ⟨a, b, c, d, e, f, g, h⟩, fun ⟨a, b, c, d, e, f, g, h⟩ => ⟨a, b, c, d, e, f, g, h⟩⟩
def fitsB (q : RaceD) (certain : Bool) (c : CutD) : Bool := decide (FitR q certain c)
theorem fits_no {q : RaceD} {certain : Bool} {c : CutD} (h : ¬ FitR q certain c) : fitsB q certain c = false := decide_eq_false h
theorem fits_yes {q : RaceD} {certain : Bool} {c : CutD} (h : FitR q certain c) : fitsB q certain c = true := decide_eq_true h
/-- what Cut answers -/
def cutR (q : RaceD) (certain : Bool) (c : CutD) : Int := if validB q then (if fitsB q certain c then 0 else 290) else 280
/-- a set has at most as many elements as there are clubs -/
theorem set_inc {q : RaceD} {l : List Int} (h : setB q l = true) : ∀ k, k < l.length → (k : Int) ≤ nthI l k := by
  unfold setB at h
  rw [List.all_eq_true] at h
  intro k
  induction k with
  | zero => intro hk; have := h 0 (List.mem_range.2 hk); simp only [decide_eq_true_eq] at this; exact this.1
  | succ k ih =>
    intro hk
    have h1 := ih (by omega)
    have := h (k + 1) (List.mem_range.2 hk)
    simp only [decide_eq_true_eq] at this
    have h2 := this.2.2.2 (by omega)
    rw [Nat.add_sub_cancel] at h2
    omega
theorem set_ok {q : RaceD} {l : List Int} (h : setB q l = true) {k : Nat} (hk : k < l.length) : SetOk q l k := by
  unfold setB at h
  rw [List.all_eq_true] at h
  have := h k (List.mem_range.2 hk)
  simpa only [decide_eq_true_eq] using this
theorem set_len {q : RaceD} {l : List Int} (h : setB q l = true) : l.length ≤ q.clubs.length := by
  rcases Nat.eq_zero_or_pos l.length with h0 | h0
  · omega
  · have h1 := set_inc h (l.length - 1) (by omega)
    have h2 := (set_ok h (k := l.length - 1) (by omega)).2.1
    omega
/-- bounds -/
theorem low_in {q : RaceD} (h : ValidR q) (i : Nat) : -99999 ≤ nthI q.points i ∧ nthI q.points i ≤ 99999 := by
  by_cases hi : i < q.clubs.length
  · exact ⟨(h.club i hi).lo, (h.club i hi).hi⟩
  · have h0 : nthI q.points i = 0 := by
      unfold nthI
      rw [List.getD_eq_getElem?_getD, List.getElem?_eq_none (by have := h.size.pts; omega)]; rfl
    omega
theorem highTo_in {q : RaceD} (h : ValidR q) (k : Nat) : -99999 ≤ highTo q k ∧ highTo q k ≤ 99999 + 999 * k := by
  have h1 := h.size.d0
  have h2 := h.size.dw
  have h3 := h.size.w9
  induction k with
  | zero => have := low_in h q.club.toNat; unfold highTo; omega
  | succ k ih => unfold highTo; split <;> omega
theorem div_in {a b m : Int} (hb : 0 < b) (hm : 0 ≤ m) (h : -m ≤ a ∧ a ≤ m) : -m - 1 ≤ a / b ∧ a / b ≤ m := by
  constructor
  · refine Int.le_ediv_of_mul_le hb ?_
    have : (-m - 1) * b ≤ (-m - 1) * 1 := Int.mul_le_mul_of_nonpos_left (by omega) (by omega)
    omega
  · rcases Int.lt_or_le a 0 with h1 | h1
    · have := Int.ediv_neg_of_neg_of_pos h1 hb; omega
    · have := Int.ediv_le_self b h1; omega
theorem countR_in {q : RaceD} (h : ValidR q) (hd : 0 < q.draw) (certain : Bool) (i : Int) : -1000000 ≤ countR q certain i ∧ countR q certain i ≤ 1000000 := by
  have h1 := low_in h i.toNat
  have h2 := low_in h q.club.toNat
  have h3 := highTo_in h q.opn.length
  have h4 := h.size.opn
  cases certain
  · show -1000000 ≤ -roomR q i ∧ -roomR q i ≤ 1000000
    have := div_in (a := highR q - nthI q.points i.toNat) hd (m := 900000) (by omega) (by unfold highR; omega)
    unfold roomR
    omega
  · show -1000000 ≤ needR q i ∧ needR q i ≤ 1000000
    have := div_in (a := nthI q.points i.toNat - lowR q) hd (m := 200000) (by omega) (by unfold lowR; omega)
    unfold needR
    omega
theorem sumTo_in {q : RaceD} (h : ValidR q) (hd : 0 < q.draw) (certain : Bool) (cl : List Int) (k : Nat) : -(1000000 * k : Int) ≤ sumTo q certain cl k ∧ sumTo q certain cl k ≤ 1000000 * k := by
  induction k with
  | zero => unfold sumTo; omega
  | succ k ih => have := countR_in h hd certain (nthI cl k); unfold sumTo; omega
end Go.Proofs.Ythlnfjbedehjdaa
/- Cuts in memory; one int appended onto an own row of ints. -/
namespace Go.Proofs.Ythlnfjbedehjdaa
open Go.RowKit Go.Deep Go.Shelf
/-- a cut in memory -/
def IsCut (w : World) (M : Nat → Prop) (v : Value) (c : CutD) : Prop := ∃ fv cv gv, v = .agg #[fv, cv, gv] ∧ IsInts w M fv c.free ∧ IsInts w M cv c.clubs ∧ IsInts w M gv c.games
section
variable {w w' : World} {M M' : Nat → Prop} {v : Value} {c : CutD}
theorem IsCut.below (h : IsCut w M v c) (hb : Below w.heap.size w w') : IsCut w' M v c := by
  obtain ⟨fv, cv, gv, e, h1, h2, h3⟩ := h; exact ⟨fv, cv, gv, e, IsSl.below h1 hb, IsSl.below h2 hb, IsSl.below h3 hb⟩
theorem IsCut.mono (h : IsCut w M v c) (hM : ∀ b, b < w.heap.size → M b → M' b) : IsCut w M' v c := by
  obtain ⟨fv, cv, gv, e, h1, h2, h3⟩ := h; exact ⟨fv, cv, gv, e, IsSl.mono h1 hM (by omega), IsSl.mono h2 hM (by omega), IsSl.mono h3 hM (by omega)⟩
/-- the parts of a cut -/
theorem IsCut.parts (h : IsCut w M v c) : ∃ fA fc uA uc gA gc, v = .agg #[.slice fA c.free.length fc, .slice uA c.clubs.length uc, .slice gA c.games.length gc] ∧
    IsInts w M (.slice fA c.free.length fc) c.free ∧ IsInts w M (.slice uA c.clubs.length uc) c.clubs ∧ IsInts w M (.slice gA c.games.length gc) c.games := by
  obtain ⟨fv, cv, gv, rfl, h1, h2, h3⟩ := h
  obtain ⟨fA, fc, rfl, r1⟩ := id h1
  obtain ⟨uA, uc, rfl, r2⟩ := id h2
  obtain ⟨gA, gc, rfl, r3⟩ := id h3
  exact ⟨fA, fc, uA, uc, gA, gc, rfl, h1, h2, h3⟩
end
/-- one int lies in a block of its own -/
theorem one_ints {w : World} {b : Nat} {y : Int} {t : TypeId} (hb : w.heap[b]? = some (.cells #[.int .i64 y] t (0, 0))) : IsInts w (fun _ => True) (.slice (some ⟨b, 0, none⟩) 1 1) [y] :=
  ⟨_, _, rfl, by simp, by simp, fun _ => ⟨b, 0, rfl, trivial, fun i j hi hj => by
    simp only [List.length_singleton] at hi
    obtain rfl : i = 0 := by omega
    obtain rfl : j = 0 := by omega
    exact cell_of hb rfl⟩⟩
/-- append of one int onto an own row of ints -/
theorem wpList_int1 {ops : Array Oper} {rest : List Oper} {o : Oper} {a : Act} {w : World} {Q : Exit → Act → World → Prop} (hg : o.guard = none) (s x : Operand) (hop : o.op = .call { callee := .builtin .append, args := #[s, x], argTypes := #[22, 22] })
    (base : Nat) (l : List Int) (y : Int) {v : Value} {b : Nat} {t : TypeId} (hs : a.eval s = v) (hown : w.ownsRow base 3 1 v l.length (l.map i64v)) (hx : a.eval x = .slice (some ⟨b, 0, none⟩) 1 1) (hb : w.heap[b]? = some (.cells #[.int .i64 y] t (0, 0))) (hl : l.length < 999999) (hbase : base ≤ w.heap.size)
    (h : ∀ A d w', Hid (w'.ownsRow base 3 1 (.slice A (l ++ [y]).length d) (l ++ [y]).length ((l ++ [y]).map i64v) ∧ Below base w w' ∧ ∀ k, k < w.heap.size → v.ownBlock ≠ some k → w'.heap[k]? = w.heap[k]?) → wpList Try.prog ops Q rest (a.put o.dst (.slice A (l ++ [y]).length d)) w') : wpList Try.prog ops Q (o :: rest) a w :=
  wpList_ints hg s x hop base l [y] hs hown hx (one_ints hb) (by simp; omega) hbase h
end Go.Proofs.Ythlnfjbedehjdaa
