import Derived.Test.YtjmafnkknohinaaMem
namespace Go.Proofs.Ytjmafnkknohinaa
open Go.RowKit

set_option maxHeartbeats 1000000 in
theorem refCheck_any (w : World) (M : Nat → Prop) (d : DiskD) (v : Value) (h : IsDisk w M v d) :
    Calls Try.prog 16 #[v] w fun e w' => e = .returned (.int .i64 (chk d)) ∧ Below w.heap.size w w' := by
  obtain ⟨sA, sc, pA, pc, rfl, hs1, hs2, hs3, hp1, hp2, hp3⟩ := h.parts
  by_cases hh : headOk d = true
  · have HH := Lib.hid hh
    simp only [headOk, Bool.and_eq_true, decide_eq_true_eq] at hh
    obtain ⟨⟨⟨⟨g1, g2⟩, g3⟩, g4⟩, g5⟩ := hh
    go_enter Try.func16, Try.ntmps16
    go_wp2
    go_loop [4] (fun i => ∃ k : Nat, k ≤ d.sectors.length ∧ i = .int .i64 k ∧ upTo secOk d.sectors k) (fun i => d.sectors.length - (intOf i).toNat)
    case atStart => exact ⟨0, Nat.zero_le _, rfl, upTo_zero⟩
    case round =>
      obtain ⟨k, hk, rfl, hsec⟩ := hrel
      by_cases hlt : k < d.sectors.length
      · obtain ⟨b, off, bA, bc, rfl, hbl, hck, hb1, hb2, hb3⟩ := hs3.at_ (Below.refl _ _) hlt
        go_wp2
        · go_ret
          have hne : (((d.sectors[k]).length : Int) != 128) = true := by assumption
          exact ⟨ret_int (chk_sec hlt (by rw [bne_iff_ne] at hne; omega)).symm, (Below.refl _ _).alloc (Nat.le_refl _) _⟩
        · go_round
          case rel =>
            have hne : (((d.sectors[k]).length : Int) != 128) = false := by assumption
            exact ⟨k + 1, by omega, by go_num, upTo_succ hsec hlt (by rw [bne_eq_false_iff_eq] at hne; simp only [secOk, decide_eq_true_eq]; omega)⟩
          case measure => simp [intOf]; omega
      · go_wp2
        obtain rfl : k = d.sectors.length := by omega
        go_loopw [5] (fun i wr => ∃ k : Nat, k ≤ d.pending.length ∧ i = .int .i64 k ∧ upTo (penOk d.sectors.length) d.pending k ∧ Below (w.heap.size + 1) (w.alloc (.cells #[.slice sA d.sectors.length sc, .slice pA d.pending.length pc, .int .i64 d.left, .bool d.stopped] 25)) wr) (fun i _ => d.pending.length - (intOf i).toNat)
        case atStart => exact ⟨0, Nat.zero_le _, rfl, upTo_zero, Below.refl _ _⟩
        case round =>
          obtain ⟨k, hk, rfl, hpen, hbel⟩ := hrel
          have hbo : Below w.heap.size w wr := ((Below.refl w.heap.size w).alloc (Nat.le_refl _) _).trans (hbel.mono (by omega))
          have hc1 := hbel.cell (p := ⟨w.heap.size, 1, none⟩) (by simp)
          simp at hc1
          have hsz := bsz hbel
          simp at hsz
          have HBE := Lib.hid hbel
          have HBO := Lib.hid hbo
          clear hbel hbo
          by_cases hlt : k < d.pending.length
          · obtain ⟨b, off, bA, bc, rfl, hbl, hck, hck1, hb1, hb2, hb3⟩ := hp3.at_ HBO.out hlt
            by_cases hq : penOk d.sectors.length d.pending[k] = true
            · have HU := Lib.hid (upTo_succ hpen hlt hq)
              simp only [penOk, Bool.and_eq_true, decide_eq_true_eq] at hq
              obtain ⟨⟨q1, q2⟩, q3⟩ := hq
              have q4 : (((d.pending[k]).data.length : Int) != 128) = false := by rw [bne_eq_false_iff_eq]; omega
              clear q3
              go_wp2
              go_roundw
              case rel => exact ⟨k + 1, by omega, by go_num, HU.out, HBE.out.alloc (by omega) _⟩
              case measure => simp [intOf]; omega
            · have HC := Lib.hid (chk_pen hlt (by simpa using hq))
              simp only [penOk, Bool.and_eq_true, decide_eq_true_eq] at hq
              go_wp2
              all_goals first
                | (go_ret; exact ⟨ret_int HC.out.symm, HBO.out.alloc (by omega) _⟩)
                | (exfalso; have q4 : (((d.pending[k]).data.length : Int) != 128) = false := (by first | assumption | exact (And.right (by assumption))); rw [bne_eq_false_iff_eq] at q4; apply hq; refine ⟨⟨?_, ?_⟩, ?_⟩ <;> omega)
          · go_wp2
            go_ret
            obtain rfl : k = d.pending.length := by omega
            exact ⟨ret_int (chk_ok HH.out hsec hpen).symm, HBO.out⟩
  · have hch := chk_head (by simpa using hh)
    have HC := Lib.hid hch
    clear hch
    simp only [headOk, Bool.and_eq_true, decide_eq_true_eq] at hh
    go_enter Try.func16, Try.ntmps16
    go_wp2
    all_goals first | (exfalso; omega) | (go_ret; exact ⟨ret_int HC.out.symm, (Below.refl _ _).alloc (Nat.le_refl _) _⟩)
end Go.Proofs.Ytjmafnkknohinaa
