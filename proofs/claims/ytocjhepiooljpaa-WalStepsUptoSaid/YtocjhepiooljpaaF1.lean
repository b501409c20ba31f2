/- few: whatever it says, a disk that it calls small has few sectors. -/
import Derived.Test.YtocjhepiooljpaaA14
namespace Go.Proofs.Ytocjhepiooljpaa
open Go.RowKit Go.Deep Go.Shelf

def FewR (w : World) (d : DiskD) (e : Ending) (w' : World) : Prop := ∃ z, e = .returned (.bool z) ∧ (z = true → d.sectors.length ≤ 40 ∧ d.pending.length ≤ 40) ∧ Below w.heap.size w w'
set_option maxRecDepth 20000 in
set_option maxHeartbeats 4000000 in
theorem few_any (w : World) (M M' : Nat → Prop) (d : DiskD) (v : Value) (h : IsDisk w M v d) (rs : List (List UInt8)) (u : Value) (hl : LensR rs) (hl2 : rs.length ≤ 140737488355328) (hu : IsMat w M' u rs) : Calls Try.prog 11 #[v, u] w (FewR w d) := by
  obtain ⟨sA, sc, pA, pc, rfl, hs1, hs2, -, hp1, hp2, -⟩ := h.parts
  obtain ⟨rA, rc, rfl, hr1, hr2, hr3⟩ := hu
  have HL := Lib.hid hl
  have HM := Lib.hid hr3
  clear h hr3 hl
  go_enter Try.func11, Try.ntmps11
  go_wp2_with fail
  refine nameC fun W1 hW1 => ?_
  have HB := Lib.hid (show Below w.heap.size w W1 by rw [hW1.out]; exact (Below.refl _ _).alloc (Nat.le_refl _) _)
  have hx : W1.heap[w.heap.size]? = some (.cells #[.slice sA d.sectors.length sc, .slice pA d.pending.length pc, .int .i64 d.left, .bool d.stopped] 25 (0, 0)) := by rw [hW1.out]; exact heap_alloc_new _ _
  have HMW := Lib.hid (HM.out.keep fun _ _ hp => HB.out.cell hp)
  have HX := Lib.hid hx
  clear hW1 hx
  go_loopw [5, 10] (fun n i wr => ∃ (k : Nat) (x : Int), k ≤ rs.length ∧ i = .int .i64 (k : Int) ∧ n = .int .i64 x ∧ Hid (wr = W1)) (fun _ i _ => rs.length - (intOf i).toNat)
  case atStart => exact ⟨0, 0, Nat.zero_le _, rfl, rfl, Lib.hid rfl⟩
  case round =>
    obtain ⟨k, x, hk, rfl, rfl, HE⟩ := hrel
    by_cases hlt : k < rs.length
    · obtain ⟨b, off, bA, bc, rfl, hbl, hck, hb1, hb2, hb3⟩ := HMW.out.at_ (same_below HE.out) hlt
      have hk0 : (0 : Int) ≤ (k : Int) := by omega
      have hk1 : (k : Int) < (rs.length : Int) := by omega
      clear hb3
      go_wp2_with fail
      go_roundw
      case rel => exact ⟨k + 1, _, by omega, rfl, rfl, HE⟩
      case measure => simp [intOf]; omega
    · obtain rfl : wr = W1 := HE.out
      have hk1 : ¬ (k : Int) < (rs.length : Int) := by omega
      obtain ⟨c0, c1, c2, c3⟩ := (blk4 (Below.refl _ _) HX.out (lt_heap HX.out)).1
      by_cases h1 : d.sectors.length ≤ 40
      · have h1i : (d.sectors.length : Int) ≤ 40 := by omega
        by_cases h2 : d.pending.length ≤ 40
        · have h2i : (d.pending.length : Int) ≤ 40 := by omega
          have H1 := Lib.hid h1
          have H2 := Lib.hid h2
          clear h1 h2
          go_wp2_with fail
          go_ret
          exact ⟨_, rfl, fun _ => ⟨H1.out, H2.out⟩, HB.out⟩
        · have h2i : ¬ (d.pending.length : Int) ≤ 40 := by omega
          go_wp2_with fail
          go_ret
          exact ⟨_, rfl, fun h => (by cases h), HB.out⟩
      · have h1i : ¬ (d.sectors.length : Int) ≤ 40 := by omega
        go_wp2_with fail
        go_ret
        exact ⟨_, rfl, fun h => (by cases h), HB.out⟩
end Go.Proofs.Ytocjhepiooljpaa
