import Derived.Test.YtjmafnkknohinaaK6
namespace Go.Proofs.Ytjmafnkknohinaa
open Go.RowKit Go.Shelf Go.Deep

/-- the sectors begin with the bytes and end with zero -/
def Holds (d : DiskD) (want : Nat → UInt8) : Prop := ∀ i : Nat, i < 4 → ∃ bs : List UInt8, readD d i = (bs, 0) ∧ bs.length = 128 ∧ bs.getD 0 0 = want i ∧ bs.getD 127 0 = 0
def want4 (f : Nat → UInt8) : Array Value := #[byt (f 0), byt (f 1), byt (f 2), byt (f 3)]
theorem byte_at {w : World} {M : Nat → Prop} {A : Option Addr} {n c : Nat} {bs : List UInt8} (h : IsBytes w M (.slice A n c) bs) (hn : bs.length = 128) : ∃ g o, A = some ⟨g, o, none⟩ ∧ w.cell? ⟨g, o, none⟩ = some (byt (bs.getD 0 0)) ∧ w.cell? ⟨g, o + 127, none⟩ = some (byt (bs.getD 127 0)) := by
  obtain ⟨A', c', e, _, _, h3⟩ := h
  cases e
  obtain ⟨g, o, e, _, hc⟩ := h3 (by omega)
  refine ⟨g, o, e, ?_, ?_⟩
  · have := hc 0 0 (by omega) (by omega)
    simpa using this
  · have := hc 127 0 (by omega) (by omega)
    simpa using this

theorem want_get (f : Nat → UInt8) {k : Nat} (hk : k < 4) : (#[byt (f 0), byt (f 1), byt (f 2), byt (f 3)] : Array Value)[k]? = some (.int .u8 ((f k).toNat : Int)) := by
  have : k = 0 ∨ k = 1 ∨ k = 2 ∨ k = 3 := by omega
  rcases this with rfl | rfl | rfl | rfl <;> rfl
set_option maxRecDepth 100000 in
set_option maxHeartbeats 1000000 in
theorem holds_any (w : World) (l : List Nat) (d : DiskD) (v : Value) (h : IsDisk w (NB l) v d) (_hl : InW l w) (f : Nat → UInt8) (hh : Holds d f) :
    Calls Try.prog 27 #[v, .agg (want4 f)] w fun e w' => e = .returned (.bool true) ∧ Below w.heap.size w w' := by
  obtain ⟨sA0, sc0, pA0, pc0, rfl, -⟩ := h.parts
  have H0 := Lib.hid h
  have HH := Lib.hid hh
  clear h hh
  unfold want4
  go_enter Try.func27, Try.ntmps27
  go_wp2_with fail
  refine nameC fun W hW => ?_
  have hB : Below w.heap.size w W := by rw [hW.out]; exact ((Below.refl w.heap.size w).alloc (Nat.le_refl _) _).alloc (by simp) _
  have hz : W.heap.size = w.heap.size + 2 := by rw [hW.out]; simp
  have k0 : W.heap[w.heap.size]? = some (.cells #[.slice sA0 d.sectors.length sc0, .slice pA0 d.pending.length pc0, .int .i64 d.left, .bool d.stopped] 25 (0, 0)) := by rw [hW.out]; exact heap2_0 _ _ _
  have k1 : W.heap[w.heap.size + 1]? = some (.cells #[byt (f 0), byt (f 1), byt (f 2), byt (f 3)] 44 (0, 0)) := by rw [hW.out]; exact heap2_1 _ _ _
  have HB := Lib.hid hB
  have HZ := Lib.hid hz
  have K0 := Lib.hid k0
  have K1 := Lib.hid k1
  clear hB hz k0 k1 hW
  go_loopw [5] (fun i wr => ∃ k : Nat, k ≤ 4 ∧ i = .int .i64 k ∧ Hid (Below W.heap.size W wr)) (fun i _ => 4 - (intOf i).toNat)
  case atStart => exact ⟨0, by omega, rfl, Below.refl _ _⟩
  case round =>
    obtain ⟨k, hk, rfl, HR⟩ := hrel
    have hzW := HZ.out
    have hszr := HR.out.size
    have B0 := Lib.hid ((HR.out.block w.heap.size (by omega)).trans K0.out)
    have B1 := Lib.hid ((HR.out.block (w.heap.size + 1) (by omega)).trans K1.out)
    clear hzW
    have HX := Lib.hid (HB.out.trans (HR.out.mono HB.out.size))
    obtain ⟨⟨c0, c1, c2, c3⟩, -⟩ := blk4 (Below.refl _ wr) B0.out (Nat.lt_succ_self _)
    by_cases hlt : k < 4
    · have hlt' : (k : Int) < 4 := by omega
      obtain ⟨bs, e1, e2, e3, e4⟩ := HH.out k hlt
      have C := Lib.hid (read_l l wr d _ (H0.out.below HX.out) (k : Int))
      rw [e1] at C
      have E2 := Lib.hid e2
      have E3 := Lib.hid e3
      have E4 := Lib.hid e4
      clear e1 e2 e3 e4
      go_wp2_with fail
      refine C.out.mono ?_
      rintro e w2 ⟨v2, rfl, hY, hb2⟩
      obtain ⟨A2, cc2, rfl, hY1, hY2, -⟩ := id hY
      obtain ⟨g, o, rfl, y0, y1⟩ := byte_at hY E2.out
      rw [E3.out] at y0
      rw [E4.out] at y1
      have y0' : w2.cell? ⟨g, o, none⟩ = some (.int .u8 ((f k).toNat : Int)) := y0
      have y1' : w2.cell? ⟨g, o + 127, none⟩ = some (.int .u8 0) := y1
      have hz2 := HZ.out
      have z0 : w2.cell? ⟨w.heap.size + 1, k, none⟩ = some (.int .u8 ((f k).toNat : Int)) := cell_of ((hb2.block (w.heap.size + 1) (by omega)).trans B1.out) (want_get f hlt)
      have HR2 := Lib.hid (HR.out.trans (hb2.mono hszr))
      have hlen : bs.length = 128 := E2.out
      have hk0 : (0 : Int) ≤ (k : Int) := by omega
      have he : (((f k).toNat : Int) != ((f k).toNat : Int)) = false := by simp
      clear y0 y1 hz2 hY hb2 c0 c1 c2 c3
      go_wp2_with fail
      go_quiet (fail)
      go_wp2_with fail
      go_roundw
      case rel => exact ⟨k + 1, by omega, by go_num, Lib.hid (below_drewN HR2.out _)⟩
      case measure => simp [intOf]; omega
    · have hnl : ¬ (k : Int) < 4 := by omega
      go_wp2_with fail
      go_ret
      exact ⟨rfl, HX.out⟩
end Go.Proofs.Ytjmafnkknohinaa
