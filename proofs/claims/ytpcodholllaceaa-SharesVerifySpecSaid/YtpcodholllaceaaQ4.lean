import Derived.Test.YtpcodholllaceaaF1
namespace Go.Proofs.Ytpcodholllaceaa
open Go.RowKit Go.Shelf

set_option maxHeartbeats 1000000 in
theorem law4 (w : World) (M : Nat → Prop) (v : Value) (cs : List Nat) (h : IsU64 w M v cs) (x y : Nat) :
    Calls Try.prog 4 #[v, .agg #[.int .u64 x, .int .u64 y]] w fun e w' => e = .returned (.bool true) ∧ Below w.heap.size w w' := by
  have H := Lib.hid h
  have CS := fun W => Lib.hid (sane_any W)
  obtain ⟨A, c, rfl, h1, h2, -⟩ := h
  go_enter Try.func4, Try.ntmps4
  go_wp2_with fail
  refine nameW fun W1 hW1 => ?_
  have hB1 : Below w.heap.size w W1 := by rw [hW1.out]; exact (Below.refl w.heap.size w).alloc (Nat.le_refl _) _
  have k1 : W1.heap[w.heap.size]? = some (.cells #[.int .u64 x, .int .u64 y] 36 (0, 0)) := (by rw [hW1.out]; simp only [heap_alloc_if]; rw [if_pos trivial])
  refine (CS _).out.mono ?_
  rintro e w1 ⟨rfl, hb1⟩
  have HB1 := Lib.hid (hB1.trans (hb1.mono hB1.size))
  have k2 := (hb1.block w.heap.size (lt_heap k1)).trans k1
  clear hb1 k1 hB1 hW1
  have HK := Lib.hid k2
  have e0 := cell_of (j := 0) k2 rfl
  have e1 := cell_of (j := 1) k2 rfl
  have hl1 := lt_heap k2
  have CV := fun W (hB : Below w1.heap.size w1 W) => Lib.hid (verify_any W M _ cs ((H.out.below HB1.out).below hB) x y)
  have CR := fun W (hB : Below w1.heap.size w1 W) => Lib.hid (refVerify_any W M _ cs ((H.out.below HB1.out).below hB) x y)
  generalize verD cs (x, y) = z at CV CR
  clear k2
  go_wp2_with fail
  by_cases hbig : 30 < cs.length
  · have hd : decide ((30 : Int) < (cs.length : Int)) = true := by simp; omega
    go_quiet (fail)
    go_wp2_with fail
    go_ret
    exact ⟨rfl, below_drewN HB1.out _⟩
  · have hd : decide ((30 : Int) < (cs.length : Int)) = false := by simp; omega
    go_region_held3 (fun w' => w'.cell? ⟨w.heap.size, 0, none⟩ = some (.int .u64 (x : Int)) ∧ w'.cell? ⟨w.heap.size, 1, none⟩ = some (.int .u64 (y : Int))) (first | with_reducible exact ⟨e0, e1⟩ | with_reducible exact ⟨s0, s1⟩ | go_keep) (first | (go_at_call 20; refine (CV _ (by repeat (first | exact Below.refl _ _ | exact HB9.out | refine Below.drew ?_))).out.mono ?_; rintro e w9 ⟨rfl, hb9⟩; have hB9 : Below w1.heap.size w1 w9 := Below.trans (by repeat (first | exact Below.refl _ _ | exact HB9.out | refine Below.drew ?_)) (hb9.mono (by have hs9 := hb9.size; first | exact Nat.le_refl _ | exact HB9.out.size | (simp; done))); have s0 := cell_of (j := 0) ((hB9.block w.heap.size hl1).trans HK.out) rfl; have s1 := cell_of (j := 1) ((hB9.block w.heap.size hl1).trans HK.out) rfl; have HB9 := Lib.hid hB9; clear hb9 hB9) | (go_at_call 21; refine (CR _ (by repeat (first | exact Below.refl _ _ | exact HB9.out | refine Below.drew ?_))).out.mono ?_; rintro e w9 ⟨rfl, hb9⟩; have hB9 : Below w1.heap.size w1 w9 := Below.trans (by repeat (first | exact Below.refl _ _ | exact HB9.out | refine Below.drew ?_)) (hb9.mono (by have hs9 := hb9.size; first | exact Nat.le_refl _ | exact HB9.out.size | (simp; done))); have s0 := cell_of (j := 0) ((hB9.block w.heap.size hl1).trans HK.out) rfl; have s1 := cell_of (j := 1) ((hB9.block w.heap.size hl1).trans HK.out) rfl; have HB9 := Lib.hid hB9; clear hb9 hB9))
    all_goals go_wp2_with fail
    all_goals go_ret
    all_goals exact ⟨by simp, HB1.out.trans (Below.mono (by repeat (first | exact HB9.out | refine Below.drew ?_)) HB1.out.size)⟩
end Go.Proofs.Ytpcodholllaceaa
