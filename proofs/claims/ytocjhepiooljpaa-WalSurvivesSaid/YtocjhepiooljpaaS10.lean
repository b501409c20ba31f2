/- A round of WalSurvives in plain Lean. -/
import Derived.Test.YtocjhepiooljpaaS8
namespace Go.Proofs.Ytocjhepiooljpaa
open Go.RowKit Go.Shelf

/-- the disk with a stop set, or none -/
def setLeft (D : DiskD) (x : Int) : DiskD := ⟨D.sectors, D.pending, x, D.stopped⟩
theorem Wk.setLeft {D : DiskD} {n g : Nat} (h : Wk D n g) {x : Int} (h1 : -1 ≤ x) (h2 : x ≤ 65536) : runsB (setLeft D x) = true ∧ (setLeft D x).pending = [] ∧ (setLeft D x).sectors = D.sectors := by
  obtain ⟨hok, hst⟩ := runsB_iff.1 h.runs
  have hl := okB_sized hok
  have hp := h.pend
  rw [okB_iff] at hok
  exact ⟨runsB_iff.2 ⟨okB_of hok.1.1 hok.1.2.1 hp h1 h2 hl.2, hst⟩, hp, rfl⟩
theorem logOf_left (D : DiskD) (x : Int) (new : List (List UInt8)) : logOf (setLeft D x) new = logOf D new := rfl
theorem wk_restart {E : DiskD} {n g : Nat} (h1 : 1 ≤ n) (h2 : n ≤ 4096) (hl : E.sectors.length = n) (hs : Sized128 E.sectors) (hg : genMax E.sectors ≤ g) : Wk (restartD E) n g :=
  ⟨runsB_iff.2 ⟨okB_of (show 1 ≤ E.sectors.length by omega) (show E.sectors.length ≤ 4096 by omega) rfl (by simp [restartD]) (by simp [restartD]) hs, rfl⟩, rfl, rfl, hl, hg⟩
/-- what a round comes to -/
theorem surv {D : DiskD} {n g : Nat} {acc : List (List UInt8)} {x : Int} (h : Wk D n g) (hg : g + 1 < 4294967296) (hu : used (recs D.sectors ++ acc) ≤ D.sectors.length) (h1 : -1 ≤ x) (h2 : x ≤ 65536) :
    (∃ E, syncL (logOf D acc) (setLeft D x) = (⟨D.sectors.length, recs D.sectors ++ acc, (recs D.sectors ++ acc).length⟩, E, 0) ∧ Wk (restartD E) n (g + 1) ∧ recs (restartD E).sectors = recs D.sectors ++ acc) ∨
    (0 ≤ x ∧ ∃ E k, syncL (logOf D acc) (setLeft D x) = (zeroL, E, 340) ∧ Wk (restartD E) n (g + 1) ∧ recs (restartD E).sectors = recs D.sectors ++ acc.take k) := by
  obtain ⟨hr, hp, hs⟩ := h.setLeft h1 h2
  have hgen := h.gen
  have hn := h.len
  have hok := (okB_iff.1 h.ok).1
  by_cases hx : 0 ≤ x ∧ x < used acc
  · right
    obtain ⟨E, s1, s2, s3, s4, s5, s6⟩ := sync_halt (D := setLeft D x) (new := acc) hr hp (by rw [hs]; omega) (by rw [hs]; exact hu) hx
    rw [logOf_left] at s1
    rw [hs] at s4 s5 s6
    exact ⟨hx.1, E, _, s1, wk_restart (by omega) (by omega) (s4.trans hn) s3 (by omega), s5⟩
  · left
    obtain ⟨E, s1, s2, s3, -, -, s6, s7, s8⟩ := sync_all (D := setLeft D x) (new := acc) hr hp (by rw [hs]; omega) (by rw [hs]; exact hu) hx
    rw [logOf_left] at s1
    rw [hs] at s1 s6 s7 s8
    exact ⟨E, s1, wk_restart (by omega) (by omega) (s6.trans hn) (okB_sized (runsB_iff.1 s2).1).2 (by omega), s7⟩
end Go.Proofs.Ytocjhepiooljpaa
