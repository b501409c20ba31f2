/- member of the law. -/
import Derived.Test.YthlnfjbedehjdaaZc
import Derived.Test.YthlnfjbedehjdaaL2
import Derived.BigQuiet
namespace Go.Proofs.Ythlnfjbedehjdaa
open Go.RowKit Go.Shelf

theorem lmember_z (w : World) (M : Nat → Prop) (v : Value) (l : List Int) (h : IsInts w M v l) (x : Int) (hlen : l.length ≤ 140737488355328) (z : Bool) (hz : z = decide (0 ≤ idxI l x)) :
    Calls Try.prog 24 #[v, .int .i64 x] w fun e w' => e = .returned (.bool z) ∧ w = w' := by
  have H := Lib.hid h
  obtain ⟨A, c, rfl, h1, h2, -⟩ := h
  obtain ⟨n, hn⟩ : ∃ n, n = l.length := ⟨_, rfl⟩
  have HN := Lib.hid hn
  rw [← hn] at hlen
  rw [← hn]
  clear hn h1 h2
  have HZ := Lib.hid hz
  clear hz
  go_enter Try.func24, Try.ntmps24
  go_wp2_with fail
  go_loop [5] (fun i => ∃ k : Nat, k ≤ n ∧ i = .int .i64 k ∧ Hid (noneTo (fun i => nthI l i == x) k)) (fun i => n - (intOf i).toNat)
  case atStart => exact ⟨0, Nat.zero_le _, rfl, Lib.hid (fun j hj => absurd hj (by omega))⟩
  case round =>
    obtain ⟨k, hk, rfl, HO⟩ := hrel
    by_cases hlt : k < n
    · obtain ⟨b, off, rfl, hbl, hck⟩ := H.out.at_ (Below.refl _ _) (show k < l.length by rw [← HN.out]; exact hlt)
      have hlt' : (k : Int) < (n : Int) := by omega
      have hk0 : (0 : Int) ≤ (k : Int) := by omega
      obtain ⟨y, hy⟩ : ∃ y, nthI l k = y := ⟨_, rfl⟩
      rw [hy] at hck
      by_cases hxy : y = x
      · have HS := Lib.hid (idxF_some (p := fun i => nthI l i == x) (show k < l.length by rw [← HN.out]; exact hlt) (by rw [hy]; simpa using hxy) HO.out)
        have ht : (y == x) = true := by simp [hxy]
        clear hxy hy
        go_wp2_with fail
        go_ret
        exact ⟨ret_bool (HZ.out.trans (by unfold idxI; rw [HS.out]; simp)).symm, rfl⟩
      · have HS := Lib.hid (noneTo_succ HO.out (show (nthI l k == x) = false by rw [hy]; simpa using hxy))
        have ht : (y == x) = false := by simpa using hxy
        clear hxy hy
        go_wp2_with fail
        go_round
        case rel => exact ⟨k + 1, by omega, by go_num, HS⟩
        case measure => simp [intOf]; omega
    · have hnl : ¬ (k : Int) < (n : Int) := by omega
      obtain rfl : k = n := by omega
      have HS := Lib.hid (idxF_none (p := fun i => nthI l i == x) HO.out)
      rw [HN.out] at HS
      go_wp2_with fail
      go_ret
      exact ⟨ret_bool (HZ.out.trans (by unfold idxI; rw [HS.out]; rfl)).symm, rfl⟩
theorem lmember_any (w : World) (M : Nat → Prop) (v : Value) (l : List Int) (h : IsInts w M v l) (x : Int) (hlen : l.length ≤ 140737488355328) :
    Calls Try.prog 24 #[v, .int .i64 x] w fun e w' => e = .returned (.bool (l.contains x)) ∧ w = w' := lmember_z w M v l h x hlen _ (idxI_has l x).symm
theorem lmemberB_any (w : World) (M : Nat → Prop) (v : Value) (l : List Int) (h : IsInts w M v l) (x : Int) (hlen : l.length ≤ 140737488355328) :
    Calls Try.prog 24 #[v, .int .i64 x] w fun e w' => e = .returned (.bool (l.contains x)) ∧ Below w.heap.size w w' := (lmember_any w M v l h x hlen).mono fun e w' ⟨h1, h2⟩ => ⟨h1, by rw [h2]; exact Below.refl _ _⟩
/-- club k shows that the cut's set is none -/
def shB (certain : Bool) (free p : List Int) (c : Int) (k : Nat) : Bool := (certain && (free.contains (k : Int) && decide (nthI p k < nthI p c.toNat))) || (!certain && (!free.contains (k : Int) && decide (nthI p c.toNat < nthI p k)))
theorem cuts_some {q : RaceD} {certain : Bool} {c : CutD} (h : cutR q certain c = 0) (outs : Nat → Int) : ∃ i : Nat, i < q.clubs.length ∧ (i : Int) ≠ q.club ∧ shB certain c.free (finTo q outs q.opn.length) q.club i = true := by
  unfold cutR at h
  by_cases hv : validB q = true
  · rw [if_pos hv] at h
    by_cases hf : fitsB q certain c = true
    · obtain ⟨i, h1, h2, h3, h4⟩ := cut_shows (validB_iff.1 hv) (of_decide_eq_true hf) outs
      refine ⟨i, h1, h2, ?_⟩
      unfold shB
      rw [h3]
      cases certain with
      | true => rw [if_pos rfl] at h4; rw [decide_eq_true h4]; rfl
      | false => rw [if_neg (by simp)] at h4; rw [decide_eq_true h4]; rfl
    · rw [if_neg hf] at h; cases h
  · rw [if_neg hv] at h; cases h
theorem cut_valid {q : RaceD} {certain : Bool} {c : CutD} (h : cutR q certain c = 0) : validB q = true := by
  unfold cutR at h
  by_cases hv : validB q = true
  · exact hv
  · rw [if_neg hv] at h; cases h
end Go.Proofs.Ythlnfjbedehjdaa
