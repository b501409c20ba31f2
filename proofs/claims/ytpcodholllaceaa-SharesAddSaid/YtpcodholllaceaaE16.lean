import Derived.Test.YtpcodholllaceaaE15
import Derived.Test.YtpcodholllaceaaMp
import Derived.Deep.RegionHeld3
namespace Go.Proofs.Ytpcodholllaceaa
open Go.RowKit Go.Shelf

theorem join1_any (x y : Nat) (w : World) : Calls Try.prog 44 #[.agg #[.int .u64 x, .int .u64 y]] w fun e w' => e = .returned (.bool (!shOk (x, y))) ∧ Below w.heap.size w w' := by
  have CI := fun W => Lib.hid (isShare_any x y W)
  go_enter Try.func44, Try.ntmps44
  go_wp2_with fail
  refine nameW fun W1 hW1 => ?_
  have HB1 : Hid (Below w.heap.size w W1) := by rw [hW1.out]; exact (Below.refl w.heap.size w).alloc (Nat.le_refl _) _
  clear hW1
  refine (CI _).out.mono ?_
  rintro e w1 ⟨rfl, hb1⟩
  have HB2 := Lib.hid (HB1.out.trans (hb1.mono HB1.out.size))
  clear hb1
  go_wp2_with fail
  go_ret
  exact ⟨rfl, HB2.out⟩
/-- the numbers differ -/
def neN (a b : Nat) : Bool := (a : Int) != (b : Int)
theorem join2_any (w : World) (M : Nat → Prop) (g : Nat) (v : Value) (f : List (Nat × Nat)) (hg : w.cell? ⟨g, 0, none⟩ = some v) (h : IsShs w M v f) (hq : ShQ f) (x y : Nat) (hx : x < 1152921504606845789) :
    Calls Try.prog 45 #[.agg #[.int .u64 x, .int .u64 y], .pointer (some ⟨g, 0, none⟩)] w fun e w' => e = .returned (.bool (neN (atD f x) y)) ∧ Below w.heap.size w w' := by
  have H := Lib.hid h
  obtain ⟨A, c, rfl, h1, h2, -⟩ := h
  have hgl := lt_of_cell hg
  dsimp only at hgl
  go_enter Try.func45, Try.ntmps45
  go_wp2_with fail
  refine nameC fun W1 hW1 => ?_
  have HB1 : Hid (Below w.heap.size w W1) := by rw [hW1.out]; exact (Below.refl w.heap.size w).alloc (Nat.le_refl _) _
  have k1 : W1.heap[w.heap.size]? = some (.cells #[.int .u64 x, .int .u64 y] 36 (0, 0)) := (by rw [hW1.out]; simp only [heap_alloc_if]; rw [if_pos trivial])
  have hg1 := (HB1.out.cell (p := ⟨g, 0, none⟩) hgl).trans hg
  have hl1 := lt_heap k1
  have hl2 : g < W1.heap.size := by omega
  clear hW1 hg
  have HK1 := Lib.hid k1
  have HG1 := Lib.hid hg1
  have e0 := cell_of (j := 0) k1 rfl
  have e1 := cell_of (j := 1) k1 rfl
  have CA := fun W (hB : Below W1.heap.size W1 W) => Lib.hid (at_any W M _ f ((H.out.below HB1.out).below hB) hq x hx)
  clear k1
  go_region_held3 (fun w' => w'.cell? ⟨g, 0, none⟩ = some (.slice A f.length c) ∧ w'.cell? ⟨w.heap.size, 0, none⟩ = some (.int .u64 (x : Int)) ∧ w'.cell? ⟨w.heap.size, 1, none⟩ = some (.int .u64 (y : Int))) (first | with_reducible exact ⟨hg1, e0, e1⟩ | with_reducible exact ⟨s0, s1, s2⟩ | go_keep) ((go_at_call 46; refine (CA _ (by repeat (first | exact Below.refl _ _ | refine Below.drew ?_))).out.mono ?_; rintro e w9 ⟨rfl, hb9⟩; have hB9 : Below W1.heap.size W1 w9 := Below.trans (by repeat (first | exact Below.refl _ _ | refine Below.drew ?_)) (hb9.mono (by first | exact Nat.le_refl _ | (simp; done))); have s0 := (hB9.cell (p := ⟨g, 0, none⟩) hl2).trans HG1.out; have s1 := cell_of (j := 0) ((hB9.block w.heap.size hl1).trans HK1.out) rfl; have s2 := cell_of (j := 1) ((hB9.block w.heap.size hl1).trans HK1.out) rfl; have HB9 := Lib.hid (HB1.out.trans (hB9.mono HB1.out.size)); clear hb9 hB9))
  all_goals go_wp2_with fail
  all_goals go_ret
  all_goals exact ⟨rfl, by repeat (first | exact HB9.out | refine Below.drew ?_)⟩
end Go.Proofs.Ytpcodholllaceaa
