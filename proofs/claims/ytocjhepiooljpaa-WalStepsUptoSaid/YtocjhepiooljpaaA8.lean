/- Lists of records compared: SameRecords, Same, slices.EqualFunc; the generation. -/
import Derived.Test.YtocjhepiooljpaaA6
import Derived.Test.YtocjhepiooljpaaA7
namespace Go.Proofs.Ytocjhepiooljpaa
open Go.RowKit Go.Deep Go.Shelf

/-- the first k are the same -/
def sameTo (a b : List (List UInt8)) (k : Nat) : Prop := ∀ i, i < k → a.getD i [] = b.getD i []
theorem sameTo_all {a b : List (List UInt8)} (hl : a.length = b.length) (h : sameTo a b a.length) : a = b := by
  refine List.ext_getElem hl fun i h1 h2 => ?_
  have := h i h1
  rw [List.getD_eq_getElem?_getD, List.getD_eq_getElem?_getD, List.getElem?_eq_getElem h1, List.getElem?_eq_getElem h2] at this
  exact this
theorem sameTo_succ {a b : List (List UInt8)} {k : Nat} (h : sameTo a b k) (h1 : k < a.length) (h2 : k < b.length) (e : a[k] = b[k]) : sameTo a b (k + 1) := fun i hi => by
  rcases Nat.lt_or_ge i k with a1 | a1
  · exact h i a1
  · obtain rfl : i = k := by omega
    rw [List.getD_eq_getElem?_getD, List.getD_eq_getElem?_getD, List.getElem?_eq_getElem h1, List.getElem?_eq_getElem h2, e]
theorem bne_ne {a b : List UInt8} (h : a ≠ b) : (a == b) = false := by simpa using h

set_option maxRecDepth 20000 in
set_option maxHeartbeats 1000000 in
theorem sameRecs_any (w : World) (M M' : Nat → Prop) (a b : List (List UInt8)) (v v' : Value) (hl : a.length ≤ 140737488355328) (hl' : b.length ≤ 140737488355328) (h : IsMat w M v a) (h' : IsMat w M' v' b) :
    Calls Try.prog 24 #[v, v'] w fun e w' => e = .returned (.bool (decide (a = b))) ∧ ∃ m, w' = w.drewN m := by
  obtain ⟨A, c, rfl, -, -, hm⟩ := h
  obtain ⟨A', c', rfl, -, -, hm'⟩ := h'
  have HS := Lib.hid hm
  have HS' := Lib.hid hm'
  clear hm hm'
  by_cases hlen : a.length = b.length
  · have e1 : ((a.length : Int) != (b.length : Int)) = false := by rw [hlen]; simp
    have HL := Lib.hid hlen
    clear hlen
    go_enter Try.func24, Try.ntmps24
    go_wp2
    go_loopw [5] (fun i wr => ∃ k m : Nat, k ≤ a.length ∧ i = .int .i64 (k : Int) ∧ wr = w.drewN m ∧ Hid (sameTo a b k)) (fun i _ => a.length - (intOf i).toNat)
    case atStart => exact ⟨0, 0, Nat.zero_le _, rfl, rfl, Lib.hid fun i hi => absurd hi (by omega)⟩
    case round =>
      obtain ⟨k, m, hk, rfl, rfl, HT⟩ := hrel
      by_cases hlt : k < a.length
      · have hlt' : k < b.length := by have := HL.out; omega
        obtain ⟨q, off, bA, bc, rfl, hbl, hck, hb1, hb2, hb3⟩ := HS.out.at_ (Below.refl _ _) hlt
        obtain ⟨q', off', bA', bc', rfl, hbl', hck', hb1', hb2', hb3'⟩ := HS'.out.at_ (Below.refl _ _) hlt'
        have hcv := fun nq => conv_bytes bc (w := w.drewN nq) (hb3.keep (fun _ _ _ => rfl))
        have hcv' := fun nq => conv_bytes bc' (w := w.drewN nq) (hb3'.keep (fun _ _ _ => rfl))
        have hk0 : (0 : Int) ≤ (k : Int) := by omega
        have hk1 : (k : Int) < (a.length : Int) := by omega
        have hk2 : (k : Int) < (b.length : Int) := by omega
        by_cases hs : a[k] = b[k]
        · have HT2 := Lib.hid (sameTo_succ HT.out hlt hlt' hs)
          rw [← hs] at hcv' hck'
          clear hs HT
          go_wp2
          go_quiet (fail)
          go_wp2
          go_roundw
          case rel => exact ⟨k + 1, _, by omega, rfl, rfl, HT2⟩
          case measure => simp [intOf]; omega
        · have HD := Lib.hid (decide_eq_false (show ¬ a = b from fun e => hs (by subst e; rfl)))
          have hnb := bne_ne hs
          go_wp2
          go_quiet (fail)
          go_wp2
          go_ret
          exact ⟨ret_bool HD.out.symm, _, World.drewN_drewN ..⟩
      · have HE := Lib.hid (sameTo_all HL.out (show sameTo a b a.length by rw [show a.length = k by omega]; exact HT.out))
        go_wp2
        go_ret
        exact ⟨ret_bool (decide_eq_true HE.out).symm, _, rfl⟩
  · have e1 : ((a.length : Int) != (b.length : Int)) = true := by rw [bne_iff_ne]; omega
    have HD := Lib.hid (decide_eq_false (show ¬ a = b from fun e => hlen (by rw [e])))
    clear hlen
    go_enter Try.func24, Try.ntmps24
    go_wp2
    go_ret
    exact ⟨ret_bool HD.out.symm, 0, rfl⟩

set_option maxRecDepth 20000 in
set_option maxHeartbeats 1000000 in
theorem equalFunc_any (w : World) (M M' : Nat → Prop) (a b : List (List UInt8)) (v v' : Value) (hl : a.length ≤ 140737488355328) (hl' : b.length ≤ 140737488355328) (h : IsMat w M v a) (h' : IsMat w M' v' b) :
    Calls Try.prog 42 #[v, v', .func (.func 43) #[] #[]] w fun e w' => e = .returned (.bool (decide (a = b))) ∧ w' = w := by
  obtain ⟨A, c, rfl, -, -, hm⟩ := h
  obtain ⟨A', c', rfl, -, -, hm'⟩ := h'
  have HS := Lib.hid hm
  have HS' := Lib.hid hm'
  clear hm hm'
  have CQ := fun W M M' A A' c c' bs bs' h h' => Lib.hid (equal_any W M M' A A' c c' bs bs' h h')
  by_cases hlen : a.length = b.length
  · have e1 : ((a.length : Int) != (b.length : Int)) = false := by rw [hlen]; simp
    have HL := Lib.hid hlen
    clear hlen
    go_enter Try.func42, Try.ntmps42
    go_wp2_with fail
    go_loopw [17] (fun i wr => ∃ k : Nat, k ≤ a.length ∧ i = .int .i64 (k : Int) ∧ Hid (wr = w) ∧ Hid (sameTo a b k)) (fun i _ => a.length - (intOf i).toNat)
    case atStart => exact ⟨0, Nat.zero_le _, rfl, Lib.hid rfl, Lib.hid fun i hi => absurd hi (by omega)⟩
    case round =>
      obtain ⟨k, hk, rfl, HB, HT⟩ := hrel
      by_cases hlt : k < a.length
      · have hlt' : k < b.length := by have := HL.out; omega
        obtain ⟨q, off, bA, bc, rfl, hbl, hck, hb1, hb2, hb3⟩ := HS.out.at_ (same_below HB.out) hlt
        obtain ⟨q', off', bA', bc', rfl, hbl', hck', hb1', hb2', hb3'⟩ := HS'.out.at_ (same_below HB.out) hlt'
        have C1 := CQ wr M M' bA bA' bc bc' _ _ (hb3.below (same_below HB.out)) (hb3'.below (same_below HB.out))
        have hk0 : (0 : Int) ≤ (k : Int) := by omega
        have hk1 : (k : Int) < (a.length : Int) := by omega
        have hk2 : (k : Int) < (b.length : Int) := by omega
        clear hb3 hb3'
        by_cases hs : a[k] = b[k]
        · have HT2 := Lib.hid (sameTo_succ HT.out hlt hlt' hs)
          rw [← hs] at hck'
          rw [decide_eq_true hs, ← hs] at C1
          clear hs HT
          go_wp2_with (go_at_call 43; refine C1.out.mono ?_; rintro e w2 ⟨rfl, rfl⟩)
          go_roundw
          case rel => exact ⟨k + 1, by omega, rfl, HB, HT2⟩
          case measure => simp [intOf]; omega
        · have HD := Lib.hid (decide_eq_false (show ¬ a = b from fun e => hs (by subst e; rfl)))
          rw [decide_eq_false hs] at C1
          clear hs
          go_wp2_with (go_at_call 43; refine C1.out.mono ?_; rintro e w2 ⟨rfl, rfl⟩)
          go_ret
          exact ⟨ret_bool HD.out.symm, HB.out⟩
      · have HE := Lib.hid (sameTo_all HL.out (show sameTo a b a.length by rw [show a.length = k by omega]; exact HT.out))
        go_wp2_with fail
        go_ret
        exact ⟨ret_bool (decide_eq_true HE.out).symm, HB.out⟩
  · have e1 : ((a.length : Int) != (b.length : Int)) = true := by rw [bne_iff_ne]; omega
    have HD := Lib.hid (decide_eq_false (show ¬ a = b from fun e => hlen (by rw [e])))
    clear hlen
    go_enter Try.func42, Try.ntmps42
    go_wp2_with fail
    go_ret
    exact ⟨ret_bool HD.out.symm, rfl⟩

theorem genMax_snoc (l : List (List UInt8)) (k : Nat) (h : k < l.length) : genMax (l.take (k + 1)) = max (genMax (l.take k)) (genS l[k]) := by
  unfold genMax
  rw [List.take_add_one, List.getElem?_eq_getElem h, Option.toList_some, List.foldl_append]
  rfl
theorem genS_lt (s : List UInt8) : genS s < 4294967296 := num_take_lt s 4
theorem genMax_lt (l : List (List UInt8)) : genMax l < 4294967296 := Nat.lt_succ_of_le (genMax_le fun s _ => Nat.le_of_lt_succ (genS_lt s))

set_option maxRecDepth 20000 in
set_option maxHeartbeats 1000000 in
theorem generation_any (w : World) (M : Nat → Prop) (v : Value) (l : List (List UInt8)) (hl : l.length ≤ 140737488355328) (hs : Sized128 l) (h : IsMat w M v l) :
    Calls Try.prog 45 #[v] w fun e w' => e = .returned (.int .u64 ((genMax l + 1 : Nat) : Int)) ∧ w' = w := by
  obtain ⟨A, c, rfl, -, -, hm⟩ := h
  have HS := Lib.hid hm
  clear hm
  have CN := fun W M A c bs hl h => Lib.hid (number_any W M A c bs hl h)
  go_enter Try.func45, Try.ntmps45
  go_wp2_with fail
  go_loopw [3, 4] (fun n i wr => ∃ k x : Nat, k ≤ l.length ∧ i = .int .i64 (k : Int) ∧ n = .int .u64 (x : Int) ∧ Hid (x = genMax (l.take k)) ∧ Hid (wr = w)) (fun _ i _ => l.length - (intOf i).toNat)
  case atStart => exact ⟨0, 0, Nat.zero_le _, rfl, rfl, Lib.hid rfl, Lib.hid rfl⟩
  case round =>
    obtain ⟨k, x, hk, rfl, rfl, HX, HB⟩ := hrel
    by_cases hlt : k < l.length
    · obtain ⟨q, off, bA, bc, rfl, hbl, hck, hb1, hb2, hb3⟩ := HS.out.at_ (same_below HB.out) hlt
      have hsz := hs _ (List.getElem_mem hlt)
      obtain ⟨qb, offb, rfl, -, -, -⟩ := hb3.at_ (Below.refl _ _) (show 0 < (l[k]).length by omega)
      have C1 := CN wr M (some ⟨qb, offb, none⟩) bc ((l[k]).take 4) (by rw [List.length_take]; omega) ((BytesC.part hb3 0 4 (by omega)).below (same_below HB.out))
      rw [show ((l[k]).take 4).length = 4 by rw [List.length_take]; omega, show num ((l[k]).take 4) = genS l[k] from rfl] at C1
      rw [hsz] at hck hb1
      obtain ⟨g, hg⟩ : ∃ g, g = genS l[k] := ⟨_, rfl⟩
      rw [← hg] at C1
      have HX2 := Lib.hid (show max x g = genMax (l.take (k + 1)) by rw [genMax_snoc _ _ hlt, ← HX.out, hg])
      have hk0 : (0 : Int) ≤ (k : Int) := by omega
      have hk1 : (k : Int) < (l.length : Int) := by omega
      have hbc4 : ¬ (bc : Int) < 4 := by omega
      have hbc0 : ¬ bc = 0 := by omega
      clear hb3 hg hsz
      go_wp2_with (go_at_call 63; refine C1.out.mono ?_; rintro e w2 ⟨rfl, rfl⟩)
      go_roundw
      case rel => exact ⟨k + 1, max x g, by omega, rfl, by split <;> (congr 1; omega), HX2, HB⟩
      case measure => simp [intOf]; omega
    · go_wp2_with fail
      go_ret
      have hx : x = genMax l := by rw [HX.out, show k = l.length by omega, List.take_length]
      have := genMax_lt l
      refine ⟨?_, HB.out⟩
      rw [← hx, show IntKind.u64.wrap ((x : Int) + 1) = ((x + 1 : Nat) : Int) by rw [IntKind.wrap_u64]; omega]
      rfl
end Go.Proofs.Ytocjhepiooljpaa
