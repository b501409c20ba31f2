/- Plain law of Room: what Append accepts. -/
import Derived.Test.YtocjhepiooljpaaS8
import Derived.Test.YtocjhepiooljpaaA22
namespace Go.Proofs.Ytocjhepiooljpaa
open Go.RowKit Go.Shelf

/-- a log with one record more -/
def plusL (l : LogD) (b : List UInt8) : LogD := ⟨l.many, l.recs ++ [b], l.synced⟩
structure RoomF (l : LogD) (b : List UInt8) (rm : Nat) : Prop where
  room : roomL l = (rm : Int)
  cases_ : (appendL l b = (zeroL, 2) ∧ (rm = 0 ∨ ¬ b.length ≤ rm)) ∨
    (appendL l b = (plusL l b, 0) ∧ (0 < rm ∧ b.length ≤ rm) ∧ ∃ rm2 : Nat, roomL (plusL l b) = (rm2 : Int) ∧ rm2 < rm ∧ chkL (plusL l b) = 0 ∧ FitR (plusL l b).recs)
theorem room_of {l : LogD} {m U : Nat} (hok : okL l = true) (hm : l.many = (m : Int)) (hU : used l.recs = U) (h1 : U ≤ m) (h2 : m ≤ 4096) : roomL l = ((116 * (m - U) : Nat) : Int) := by
  unfold roomL chkL
  rw [if_pos hok, if_pos rfl, usedI_small (by omega), hm, hU, IntWalk.wrap64_in ((m : Int) - (U : Int)) (by omega), IntWalk.wrap64_in _ (by omega)]
  omega
theorem room_facts {l : LogD} {b : List UInt8} (hok : okL l = true) (hU : used l.recs ≤ 1048576) (hb : b.length ≤ 140737488355328) : ∃ rm, RoomF l b rm := by
  have hk := hok
  unfold okL at hk
  simp only [Bool.and_eq_true, decide_eq_true_eq] at hk
  obtain ⟨⟨⟨⟨k1, k2⟩, k3⟩, k4⟩, k5⟩ := hk
  rw [usedI_small (by omega)] at k5
  obtain ⟨m, hm⟩ : ∃ m : Nat, l.many = (m : Int) := ⟨l.many.toNat, by omega⟩
  obtain ⟨U, hUe⟩ : ∃ U, used l.recs = U := ⟨_, rfl⟩
  have hs : secs b.length ≤ 140737488355329 := by have := secs_le b.length; omega
  refine ⟨116 * (m - U), room_of hok hm hUe (by omega) (by omega), ?_⟩
  have ha : appendL l b = if secs b.length ≤ m - U then (plusL l b, 0) else (zeroL, 2) := by
    unfold appendL plusL
    rw [if_pos hok, usedI_small (by omega), hm, hUe, IntWalk.wrap64_in _ (by omega)]
    by_cases h : secs b.length ≤ m - U
    · rw [if_pos h, if_neg (by omega)]
    · rw [if_neg h, if_pos (by omega)]
  have hsec : secs b.length = max 1 ((b.length + 115) / 116) := rfl
  by_cases h : secs b.length ≤ m - U
  · right
    have hu2 : used (plusL l b).recs = U + secs b.length := by
      show used (l.recs ++ [b]) = _
      rw [used_append, hUe]
      show _ + used [b] = _
      rw [used_cons, used_nil, Nat.add_zero]
    have hok2 : okL (plusL l b) = true := by
      unfold okL
      simp only [Bool.and_eq_true, decide_eq_true_eq]
      rw [usedI_small (by omega), hu2]
      refine ⟨⟨⟨⟨k1, k2⟩, k3⟩, ?_⟩, ?_⟩
      · show l.synced ≤ ((l.recs ++ [b]).length : Int)
        rw [List.length_append]
        omega
      · show _ ≤ l.many
        omega
    refine ⟨ha.trans (if_pos h), by omega, 116 * (m - (U + secs b.length)), room_of hok2 hm hu2 (by omega) (by omega), by omega, chkL_ok hok2, fit_of_used (by rw [hu2]; omega)⟩
  · left
    exact ⟨ha.trans (if_neg h), by omega⟩
end Go.Proofs.Ytocjhepiooljpaa
