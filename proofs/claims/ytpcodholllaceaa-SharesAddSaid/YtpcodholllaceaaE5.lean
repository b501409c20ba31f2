import Derived.Test.YtpcodholllaceaaE4
namespace Go.Proofs.Ytpcodholllaceaa
open Go.RowKit Go.Shelf

/-- two slices that read alike are the same -/
theorem same_yes (w : World) (M M' : Nat → Prop) (v v' : Value) (xs : List Nat) (h : IsU64 w M v xs) (h' : IsU64 w M' v' xs) :
    Calls Try.prog 18 #[v, v'] w fun e w' => e = .returned (.bool true) ∧ ∃ n, w' = w.drewN n := by
  have H := Lib.hid h
  have H' := Lib.hid h'
  obtain ⟨A, c, rfl, h1, h2, -⟩ := h
  obtain ⟨A', c', rfl, h1', h2', -⟩ := h'
  have hne : ((xs.length : Int) != (xs.length : Int)) = false := by simp
  go_enter Try.func18, Try.ntmps18
  go_wp2_with fail
  go_loopw [5] (fun i wr => ∃ k : Nat, k ≤ xs.length ∧ i = .int .i64 k ∧ Hid (Drn w wr)) (fun i _ => xs.length - (intOf i).toNat)
  case atStart => exact ⟨0, Nat.zero_le _, rfl, Lib.hid (Drn.refl _)⟩
  case round =>
    obtain ⟨k, hk, rfl, HD⟩ := hrel
    by_cases hlt : k < xs.length
    · have hb := drn_below HD.out
      obtain ⟨b, off, rfl, hbl, hck⟩ := H.out.at_ hb hlt
      obtain ⟨b', off', rfl, hbl', hck'⟩ := H'.out.at_ hb hlt
      have hlt' : (k : Int) < (xs.length : Int) := by omega
      have hk0 : (0 : Int) ≤ (k : Int) := by omega
      have he : (((xs[k] : Nat) : Int) != ((xs[k] : Nat) : Int)) = false := by simp
      clear hb
      go_wp2_with fail
      go_quiet (fail)
      go_wp2_with fail
      go_roundw
      case rel => exact ⟨k + 1, by omega, by go_num, Lib.hid (HD.out.drewN _)⟩
      case measure => simp [intOf]; omega
    · have hnl : ¬ (k : Int) < (xs.length : Int) := by omega
      go_wp2_with fail
      go_ret
      exact ⟨rfl, HD.out⟩
end Go.Proofs.Ytpcodholllaceaa
