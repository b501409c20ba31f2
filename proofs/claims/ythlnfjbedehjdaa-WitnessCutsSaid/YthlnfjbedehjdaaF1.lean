/- sane: the examples of the chapter, run. -/
import Derived.Test.YthlnfjbedehjdaaC10
namespace Go.Proofs.Ythlnfjbedehjdaa
open Go.RowKit Go.Deep Go.Shelf

def All : Nat → Prop := fun _ => True
def equalD : RaceD := ⟨2, 1, [3, 5], [4, 4], [], 0, 1⟩
def secondD : RaceD := ⟨2, 1, [3, 5], [4, 4], [], 0, 2⟩
def aheadD : RaceD := ⟨2, 1, [1, 2, 3], [10, 4, 0], [(1, 2)], 0, 1⟩
def threeD : RaceD := ⟨3, 1, [1, 2, 3], [10, 4, 0], [(1, 2)], 0, 1⟩
def zeroD : RaceD := ⟨0, 0, [], [], [], 0, 0⟩
def cutD1 : CutD := ⟨[1], [1], [0]⟩
def ver0 (k : Int) : VerD := ⟨k, [], [], []⟩
theorem s_r1 : reachedR equalD [] = 0 := by kernel_rfl
theorem s_m1 : missedR equalD [] = 0 := by kernel_rfl
theorem s_r2 : reachedR secondD [] = 0 := by kernel_rfl
theorem s_m2 : missedR secondD [] = 290 := by kernel_rfl
theorem s_r3 : reachedR aheadD [] = 1 := by kernel_rfl
theorem s_c1 : cutR aheadD true cutD1 = 0 := by kernel_rfl
theorem s_c2 : cutR threeD true cutD1 = 290 := by kernel_rfl
theorem s_k1 : checkR zeroD (ver0 0) = 280 := by kernel_rfl
theorem s_k2 : checkR aheadD (ver0 0) = 290 := by kernel_rfl
theorem s_k3 : checkR secondD (ver0 1) = 0 := by kernel_rfl
theorem few0 (k : Int) : FewV (ver0 k) := ⟨by simp [ver0], by simp [ver0], by simp [ver0], fun c h => by cases h⟩
theorem ints_at {w : World} {b n : Nat} {l : List Int} {cs : Array Value} {t : TypeId} {z : Nat × Nat} (h : w.heap[b]? = some (.cells cs t z)) (hn : n = l.length) (hc : ∀ i, i < l.length → cs[i]? = some (.int .i64 (l.getD i 0))) (hl : l.length ≤ 9) : IsInts w All (.slice (some ⟨b, 0, none⟩) n n) l :=
  ⟨some ⟨b, 0, none⟩, n, by rw [hn], by omega, by omega, fun _ => ⟨b, 0, rfl, trivial, fun i j hi hj => by
    obtain rfl : j = 0 := by omega
    rw [Nat.zero_add, Nat.mul_one, Nat.add_zero]; exact cell_of h (hc i hi)⟩⟩
theorem one_at {w : World} {b : Nat} {x : Int} (h : w.heap[b]? = some (.cells #[.int .i64 x] 3 (0, 0))) : IsInts w All (.slice (some ⟨b, 0, none⟩) 1 1) [x] :=
  ints_at (l := [x]) h rfl (fun i hi => by
    have hi : i < 1 := hi
    match i, hi with
    | 0, _ => rfl) (by simp)
theorem two_at {w : World} {b : Nat} {x y : Int} (h : w.heap[b]? = some (.cells #[.int .i64 x, .int .i64 y] 3 (0, 0))) : IsInts w All (.slice (some ⟨b, 0, none⟩) 2 2) [x, y] :=
  ints_at (l := [x, y]) h rfl (fun i hi => by
    have hi : i < 2 := hi
    match i, hi with
    | 0, _ => rfl
    | 1, _ => rfl) (by simp)
theorem three_at {w : World} {b : Nat} {x y u : Int} (h : w.heap[b]? = some (.cells #[.int .i64 x, .int .i64 y, .int .i64 u] 3 (0, 0))) : IsInts w All (.slice (some ⟨b, 0, none⟩) 3 3) [x, y, u] :=
  ints_at (l := [x, y, u]) h rfl (fun i hi => by
    have hi : i < 3 := hi
    match i, hi with
    | 0, _ => rfl
    | 1, _ => rfl
    | 2, _ => rfl) (by simp)
theorem edge1_at {w : World} {b : Nat} {x y : Int} (h : w.heap[b]? = some (.cells #[.int .i64 x, .int .i64 y] 53 (0, 0))) : IsEdges w All (.slice (some ⟨b, 0, none⟩) 1 1) [(x, y)] :=
  ⟨some ⟨b, 0, none⟩, 1, rfl, by simp, by simp, fun _ => ⟨b, 0, rfl, trivial, fun i j hi hj => by
    have hi : i < 1 := hi
    match i, j, hi, hj with
    | 0, 0, _, _ => exact cell_of h rfl
    | 0, 1, _, _ => exact cell_of h rfl⟩⟩
theorem ver0_is (w : World) (k : Int) : IsVer w All (.agg #[.int .i64 k, .slice none 0 0, .slice none 0 0, .slice none 0 0]) (ver0 k) := ⟨_, _, _, rfl, IsSl.nil, IsSl.nil, IsCuts.nil⟩
theorem zero_is (w : World) : IsRace w All (.agg #[.int .i64 0, .int .i64 0, .slice none 0 0, .slice none 0 0, .slice none 0 0, .int .i64 0, .int .i64 0]) zeroD := ⟨_, _, _, rfl, IsSl.nil, IsSl.nil, IsSl.nil⟩
set_option maxHeartbeats 4000000 in
set_option maxRecDepth 100000 in
theorem sane_any (w : World) : Calls Try.prog 10 #[] w fun e w' => e = .returned (.bool true) ∧ Below w.heap.size w w' := by
  go_enter Try.func10, Try.ntmps10
  go_wp2_with fail
  refine nameW fun W1 hW1 => ?_
  have hb1 : Below w.heap.size w W1 := by rw [hW1.out]; repeat (first | with_reducible exact Below.refl _ _ | refine Below.alloc ?_ (by simp; try omega) _)
  have k0 : W1.heap[w.heap.size]? = some (.cells #[.int .i64 3, .int .i64 5] 3 (0, 0)) := by rw [hW1.out]; simp only [heap_alloc_if, World.size_alloc]; (repeat (rw [if_neg (by omega)])); rw [if_pos trivial]
  have k1 : W1.heap[w.heap.size + 1]? = some (.cells #[.int .i64 4, .int .i64 4] 3 (0, 0)) := by rw [hW1.out]; simp only [heap_alloc_if, World.size_alloc]; (repeat (rw [if_neg (by omega)])); rw [if_pos trivial]
  have k2 : W1.heap[w.heap.size + 1 + 1]? = some (.cells #[.int .i64 2, .int .i64 1, .slice (some ⟨w.heap.size, 0, none⟩) 2 2, .slice (some ⟨w.heap.size + 1, 0, none⟩) 2 2, .slice none 0 0, .int .i64 0, .int .i64 1] 25 (0, 0)) := by rw [hW1.out]; simp only [heap_alloc_if, World.size_alloc]; (repeat (rw [if_neg (by omega)])); rw [if_pos trivial]
  have k3 : W1.heap[w.heap.size + 1 + 1 + 1]? = some (.cells #[.int .i64 2, .int .i64 1, .slice (some ⟨w.heap.size, 0, none⟩) 2 2, .slice (some ⟨w.heap.size + 1, 0, none⟩) 2 2, .slice none 0 0, .int .i64 0, .int .i64 2] 25 (0, 0)) := by rw [hW1.out]; simp only [heap_alloc_if, World.size_alloc]; (repeat (rw [if_neg (by omega)])); rw [if_pos trivial]
  have k4 : W1.heap[w.heap.size + 1 + 1 + 1 + 1]? = some (.cells #[.int .i64 1, .int .i64 2, .int .i64 3] 3 (0, 0)) := by rw [hW1.out]; simp only [heap_alloc_if, World.size_alloc]; (repeat (rw [if_neg (by omega)])); rw [if_pos trivial]
  have k5 : W1.heap[w.heap.size + 1 + 1 + 1 + 1 + 1]? = some (.cells #[.int .i64 10, .int .i64 4, .int .i64 0] 3 (0, 0)) := by rw [hW1.out]; simp only [heap_alloc_if, World.size_alloc]; (repeat (rw [if_neg (by omega)])); rw [if_pos trivial]
  have k6 : W1.heap[w.heap.size + 1 + 1 + 1 + 1 + 1 + 1]? = some (.cells #[.int .i64 1, .int .i64 2] 53 (0, 0)) := by rw [hW1.out]; simp only [heap_alloc_if, World.size_alloc]; (repeat (rw [if_neg (by omega)])); rw [if_pos trivial]
  have k7 : W1.heap[w.heap.size + 1 + 1 + 1 + 1 + 1 + 1 + 1]? = some (.cells #[.int .i64 2, .int .i64 1, .slice (some ⟨w.heap.size + 1 + 1 + 1 + 1, 0, none⟩) 3 3, .slice (some ⟨w.heap.size + 1 + 1 + 1 + 1 + 1, 0, none⟩) 3 3, .slice (some ⟨w.heap.size + 1 + 1 + 1 + 1 + 1 + 1, 0, none⟩) 1 1, .int .i64 0, .int .i64 1] 25 (0, 0)) := by rw [hW1.out]; simp only [heap_alloc_if, World.size_alloc]; (repeat (rw [if_neg (by omega)])); rw [if_pos trivial]
  have k8 : W1.heap[w.heap.size + 1 + 1 + 1 + 1 + 1 + 1 + 1 + 1]? = some (.cells #[.int .i64 3, .int .i64 1, .slice (some ⟨w.heap.size + 1 + 1 + 1 + 1, 0, none⟩) 3 3, .slice (some ⟨w.heap.size + 1 + 1 + 1 + 1 + 1, 0, none⟩) 3 3, .slice (some ⟨w.heap.size + 1 + 1 + 1 + 1 + 1 + 1, 0, none⟩) 1 1, .int .i64 0, .int .i64 1] 25 (0, 0)) := by rw [hW1.out]; simp only [heap_alloc_if, World.size_alloc]; (repeat (rw [if_neg (by omega)])); rw [if_pos trivial]
  have k9 : W1.heap[w.heap.size + 1 + 1 + 1 + 1 + 1 + 1 + 1 + 1 + 1]? = some (.cells #[.int .i64 1] 3 (0, 0)) := by rw [hW1.out]; simp only [heap_alloc_if, World.size_alloc]; (repeat (rw [if_neg (by omega)])); rw [if_pos trivial]
  have k10 : W1.heap[w.heap.size + 1 + 1 + 1 + 1 + 1 + 1 + 1 + 1 + 1 + 1]? = some (.cells #[.int .i64 1] 3 (0, 0)) := by rw [hW1.out]; simp only [heap_alloc_if, World.size_alloc]; (repeat (rw [if_neg (by omega)])); rw [if_pos trivial]
  have k11 : W1.heap[w.heap.size + 1 + 1 + 1 + 1 + 1 + 1 + 1 + 1 + 1 + 1 + 1]? = some (.cells #[.int .i64 0] 3 (0, 0)) := by rw [hW1.out]; simp only [heap_alloc_if, World.size_alloc]; (repeat (rw [if_neg (by omega)])); rw [if_pos trivial]
  have k12 : W1.heap[w.heap.size + 1 + 1 + 1 + 1 + 1 + 1 + 1 + 1 + 1 + 1 + 1 + 1]? = some (.cells #[.slice (some ⟨w.heap.size + 1 + 1 + 1 + 1 + 1 + 1 + 1 + 1 + 1, 0, none⟩) 1 1, .slice (some ⟨w.heap.size + 1 + 1 + 1 + 1 + 1 + 1 + 1 + 1 + 1 + 1, 0, none⟩) 1 1, .slice (some ⟨w.heap.size + 1 + 1 + 1 + 1 + 1 + 1 + 1 + 1 + 1 + 1 + 1, 0, none⟩) 1 1] 31 (0, 0)) := by rw [hW1.out]; simp only [heap_alloc_if, World.size_alloc]; (repeat (rw [if_neg (by omega)])); rw [if_pos trivial]
  clear hW1
  obtain ⟨b12, hb_12⟩ : ∃ b, b = w.heap.size + 1 + 1 + 1 + 1 + 1 + 1 + 1 + 1 + 1 + 1 + 1 + 1 := ⟨_, rfl⟩
  rw [← hb_12] at k12 ⊢
  obtain ⟨b11, hb_11⟩ : ∃ b, b = w.heap.size + 1 + 1 + 1 + 1 + 1 + 1 + 1 + 1 + 1 + 1 + 1 := ⟨_, rfl⟩
  rw [← hb_11] at k11 k12 ⊢
  obtain ⟨b10, hb_10⟩ : ∃ b, b = w.heap.size + 1 + 1 + 1 + 1 + 1 + 1 + 1 + 1 + 1 + 1 := ⟨_, rfl⟩
  rw [← hb_10] at k10 k12 ⊢
  obtain ⟨b9, hb_9⟩ : ∃ b, b = w.heap.size + 1 + 1 + 1 + 1 + 1 + 1 + 1 + 1 + 1 := ⟨_, rfl⟩
  rw [← hb_9] at k9 k12 ⊢
  obtain ⟨b8, hb_8⟩ : ∃ b, b = w.heap.size + 1 + 1 + 1 + 1 + 1 + 1 + 1 + 1 := ⟨_, rfl⟩
  rw [← hb_8] at k8 ⊢
  obtain ⟨b7, hb_7⟩ : ∃ b, b = w.heap.size + 1 + 1 + 1 + 1 + 1 + 1 + 1 := ⟨_, rfl⟩
  rw [← hb_7] at k7 ⊢
  obtain ⟨b6, hb_6⟩ : ∃ b, b = w.heap.size + 1 + 1 + 1 + 1 + 1 + 1 := ⟨_, rfl⟩
  rw [← hb_6] at k6 k7 k8 ⊢
  obtain ⟨b5, hb_5⟩ : ∃ b, b = w.heap.size + 1 + 1 + 1 + 1 + 1 := ⟨_, rfl⟩
  rw [← hb_5] at k5 k7 k8 ⊢
  obtain ⟨b4, hb_4⟩ : ∃ b, b = w.heap.size + 1 + 1 + 1 + 1 := ⟨_, rfl⟩
  rw [← hb_4] at k4 k7 k8 ⊢
  obtain ⟨b3, hb_3⟩ : ∃ b, b = w.heap.size + 1 + 1 + 1 := ⟨_, rfl⟩
  rw [← hb_3] at k3 ⊢
  obtain ⟨b2, hb_2⟩ : ∃ b, b = w.heap.size + 1 + 1 := ⟨_, rfl⟩
  rw [← hb_2] at k2 ⊢
  obtain ⟨b1, hb_1⟩ : ∃ b, b = w.heap.size + 1 := ⟨_, rfl⟩
  rw [← hb_1] at k1 k2 k3 ⊢
  clear hb_1 hb_2 hb_3 hb_4 hb_5 hb_6 hb_7 hb_8 hb_9 hb_10 hb_11 hb_12
  have HR2 := Lib.hid (show IsRace W1 All (.agg #[.int .i64 2, .int .i64 1, .slice (some ⟨w.heap.size, 0, none⟩) 2 2, .slice (some ⟨b1, 0, none⟩) 2 2, .slice none 0 0, .int .i64 0, .int .i64 1]) equalD from ⟨_, _, _, rfl, two_at k0, two_at k1, IsSl.nil⟩)
  have HR3 := Lib.hid (show IsRace W1 All (.agg #[.int .i64 2, .int .i64 1, .slice (some ⟨w.heap.size, 0, none⟩) 2 2, .slice (some ⟨b1, 0, none⟩) 2 2, .slice none 0 0, .int .i64 0, .int .i64 2]) secondD from ⟨_, _, _, rfl, two_at k0, two_at k1, IsSl.nil⟩)
  have HR7 := Lib.hid (show IsRace W1 All (.agg #[.int .i64 2, .int .i64 1, .slice (some ⟨b4, 0, none⟩) 3 3, .slice (some ⟨b5, 0, none⟩) 3 3, .slice (some ⟨b6, 0, none⟩) 1 1, .int .i64 0, .int .i64 1]) aheadD from ⟨_, _, _, rfl, three_at k4, three_at k5, edge1_at k6⟩)
  have HR8 := Lib.hid (show IsRace W1 All (.agg #[.int .i64 3, .int .i64 1, .slice (some ⟨b4, 0, none⟩) 3 3, .slice (some ⟨b5, 0, none⟩) 3 3, .slice (some ⟨b6, 0, none⟩) 1 1, .int .i64 0, .int .i64 1]) threeD from ⟨_, _, _, rfl, three_at k4, three_at k5, edge1_at k6⟩)
  have HCU := Lib.hid (show IsCut W1 All (.agg #[.slice (some ⟨b9, 0, none⟩) 1 1, .slice (some ⟨b10, 0, none⟩) 1 1, .slice (some ⟨b11, 0, none⟩) 1 1]) cutD1 from ⟨_, _, _, rfl, one_at k9, one_at k10, one_at k11⟩)
  have HC2 := Lib.hid (show ∀ W', Below W1.heap.size W1 W' → (W'.cell? ⟨b2, 0, none⟩ = some (.int .i64 2) ∧ W'.cell? ⟨b2, 1, none⟩ = some (.int .i64 1) ∧ W'.cell? ⟨b2, 2, none⟩ = some (.slice (some ⟨w.heap.size, 0, none⟩) 2 2) ∧ W'.cell? ⟨b2, 3, none⟩ = some (.slice (some ⟨b1, 0, none⟩) 2 2) ∧ W'.cell? ⟨b2, 4, none⟩ = some (.slice none 0 0) ∧ W'.cell? ⟨b2, 5, none⟩ = some (.int .i64 0) ∧ W'.cell? ⟨b2, 6, none⟩ = some (.int .i64 1)) from fun W' h => by
    have e0 := (h.block _ (lt_heap k2)).trans k2
    exact ⟨cell_of e0 rfl, cell_of e0 rfl, cell_of e0 rfl, cell_of e0 rfl, cell_of e0 rfl, cell_of e0 rfl, cell_of e0 rfl⟩)
  have HC3 := Lib.hid (show ∀ W', Below W1.heap.size W1 W' → (W'.cell? ⟨b3, 0, none⟩ = some (.int .i64 2) ∧ W'.cell? ⟨b3, 1, none⟩ = some (.int .i64 1) ∧ W'.cell? ⟨b3, 2, none⟩ = some (.slice (some ⟨w.heap.size, 0, none⟩) 2 2) ∧ W'.cell? ⟨b3, 3, none⟩ = some (.slice (some ⟨b1, 0, none⟩) 2 2) ∧ W'.cell? ⟨b3, 4, none⟩ = some (.slice none 0 0) ∧ W'.cell? ⟨b3, 5, none⟩ = some (.int .i64 0) ∧ W'.cell? ⟨b3, 6, none⟩ = some (.int .i64 2)) from fun W' h => by
    have e0 := (h.block _ (lt_heap k3)).trans k3
    exact ⟨cell_of e0 rfl, cell_of e0 rfl, cell_of e0 rfl, cell_of e0 rfl, cell_of e0 rfl, cell_of e0 rfl, cell_of e0 rfl⟩)
  have HC7 := Lib.hid (show ∀ W', Below W1.heap.size W1 W' → (W'.cell? ⟨b7, 0, none⟩ = some (.int .i64 2) ∧ W'.cell? ⟨b7, 1, none⟩ = some (.int .i64 1) ∧ W'.cell? ⟨b7, 2, none⟩ = some (.slice (some ⟨b4, 0, none⟩) 3 3) ∧ W'.cell? ⟨b7, 3, none⟩ = some (.slice (some ⟨b5, 0, none⟩) 3 3) ∧ W'.cell? ⟨b7, 4, none⟩ = some (.slice (some ⟨b6, 0, none⟩) 1 1) ∧ W'.cell? ⟨b7, 5, none⟩ = some (.int .i64 0) ∧ W'.cell? ⟨b7, 6, none⟩ = some (.int .i64 1)) from fun W' h => by
    have e0 := (h.block _ (lt_heap k7)).trans k7
    exact ⟨cell_of e0 rfl, cell_of e0 rfl, cell_of e0 rfl, cell_of e0 rfl, cell_of e0 rfl, cell_of e0 rfl, cell_of e0 rfl⟩)
  have HC8 := Lib.hid (show ∀ W', Below W1.heap.size W1 W' → (W'.cell? ⟨b8, 0, none⟩ = some (.int .i64 3) ∧ W'.cell? ⟨b8, 1, none⟩ = some (.int .i64 1) ∧ W'.cell? ⟨b8, 2, none⟩ = some (.slice (some ⟨b4, 0, none⟩) 3 3) ∧ W'.cell? ⟨b8, 3, none⟩ = some (.slice (some ⟨b5, 0, none⟩) 3 3) ∧ W'.cell? ⟨b8, 4, none⟩ = some (.slice (some ⟨b6, 0, none⟩) 1 1) ∧ W'.cell? ⟨b8, 5, none⟩ = some (.int .i64 0) ∧ W'.cell? ⟨b8, 6, none⟩ = some (.int .i64 1)) from fun W' h => by
    have e0 := (h.block _ (lt_heap k8)).trans k8
    exact ⟨cell_of e0 rfl, cell_of e0 rfl, cell_of e0 rfl, cell_of e0 rfl, cell_of e0 rfl, cell_of e0 rfl, cell_of e0 rfl⟩)
  have HC12 := Lib.hid (show ∀ W', Below W1.heap.size W1 W' → (W'.cell? ⟨b12, 0, none⟩ = some (.slice (some ⟨b9, 0, none⟩) 1 1) ∧ W'.cell? ⟨b12, 1, none⟩ = some (.slice (some ⟨b10, 0, none⟩) 1 1) ∧ W'.cell? ⟨b12, 2, none⟩ = some (.slice (some ⟨b11, 0, none⟩) 1 1)) from fun W' h => by
    have e0 := (h.block _ (lt_heap k12)).trans k12
    exact ⟨cell_of e0 rfl, cell_of e0 rfl, cell_of e0 rfl⟩)
  have HBL := Lib.hid (show ∀ W', Below W1.heap.size W1 W' → Below w.heap.size w W' from fun W' h => hb1.trans (h.mono hb1.size))
  clear k0 k1 k2 k3 k4 k5 k6 k7 k8 k9 k10 k11 k12 hb1
  have C1 := fun (W : World) (hB : Below W1.heap.size W1 W) => Lib.hid (show Calls Try.prog 11 _ W (RetE _ W) from by
    have h := reached_any W All All _ _ equalD [] (HR2.out.below hB) IsSl.nil (by simp)
    rw [s_r1] at h
    exact h)
  have C2 := fun (W : World) (hB : Below W1.heap.size W1 W) => Lib.hid (show Calls Try.prog 13 _ W (RetE _ W) from by
    have h := missed_any W All All _ _ equalD [] (HR2.out.below hB) IsSl.nil (by simp)
    rw [s_m1] at h
    exact h)
  have C3 := fun (W : World) (hB : Below W1.heap.size W1 W) => Lib.hid (show Calls Try.prog 11 _ W (RetE _ W) from by
    have h := reached_any W All All _ _ secondD [] (HR3.out.below hB) IsSl.nil (by simp)
    rw [s_r2] at h
    exact h)
  have C4 := fun (W : World) (hB : Below W1.heap.size W1 W) => Lib.hid (show Calls Try.prog 13 _ W (RetE _ W) from by
    have h := missed_any W All All _ _ secondD [] (HR3.out.below hB) IsSl.nil (by simp)
    rw [s_m2] at h
    exact h)
  have C5 := fun (W : World) (hB : Below W1.heap.size W1 W) => Lib.hid (show Calls Try.prog 11 _ W (RetE _ W) from by
    have h := reached_any W All All _ _ aheadD [] (HR7.out.below hB) IsSl.nil (by simp)
    rw [s_r3] at h
    exact h)
  have C6 := fun (W : World) (hB : Below W1.heap.size W1 W) => Lib.hid (show Calls Try.prog 16 _ W (RetE _ W) from by
    have h := cut_any W All All _ _ aheadD true cutD1 (HR7.out.below hB) (HCU.out.below hB) (by simp [cutD1]) (by simp [cutD1])
    rw [s_c1] at h
    exact h)
  have C7 := fun (W : World) (hB : Below W1.heap.size W1 W) => Lib.hid (show Calls Try.prog 16 _ W (RetE _ W) from by
    have h := cut_any W All All _ _ threeD true cutD1 (HR8.out.below hB) (HCU.out.below hB) (by simp [cutD1]) (by simp [cutD1])
    rw [s_c2] at h
    exact h)
  have C8 := fun (W : World) (hB : Below W1.heap.size W1 W) => Lib.hid (show Calls Try.prog 19 _ W (RetE _ W) from by
    have h := check29_any W All All _ _ zeroD (ver0 0) (zero_is _) (ver0_is _ 0) (by simp [zeroD]) (few0 0)
    rw [s_k1] at h
    exact h)
  have C9 := fun (W : World) (hB : Below W1.heap.size W1 W) => Lib.hid (show Calls Try.prog 19 _ W (RetE _ W) from by
    have h := check29_any W All All _ _ aheadD (ver0 0) (HR7.out.below hB) (ver0_is _ 0) (by simp [aheadD]) (few0 0)
    rw [s_k2] at h
    exact h)
  have C10 := fun (W : World) (hB : Below W1.heap.size W1 W) => Lib.hid (show Calls Try.prog 19 _ W (RetE _ W) from by
    have h := check29_any W All All _ _ secondD (ver0 1) (HR3.out.below hB) (ver0_is _ 1) (by simp [secondD]) (few0 1)
    rw [s_k3] at h
    exact h)
  refine (C1 _ (Below.refl _ _)).out.mono ?_
  rintro e V0 ⟨rfl, hb⟩
  have HB0 := Lib.hid hb
  clear hb 
  obtain ⟨x2_0, x2_1, x2_2, x2_3, x2_4, x2_5, x2_6⟩ := HC2.out _ HB0.out
  go_wp2_with fail
  refine (C2 _ HB0.out).out.mono ?_
  rintro e V1 ⟨rfl, hb⟩
  have HB1 := Lib.hid (HB0.out.trans (hb.mono HB0.out.size))
  clear hb x2_0 x2_1 x2_2 x2_3 x2_4 x2_5 x2_6
  obtain ⟨x3_0, x3_1, x3_2, x3_3, x3_4, x3_5, x3_6⟩ := HC3.out _ HB1.out
  go_wp2_with fail
  refine (C3 _ HB1.out).out.mono ?_
  rintro e V2 ⟨rfl, hb⟩
  have HB2 := Lib.hid (HB1.out.trans (hb.mono HB1.out.size))
  clear hb x3_0 x3_1 x3_2 x3_3 x3_4 x3_5 x3_6
  obtain ⟨x3_0, x3_1, x3_2, x3_3, x3_4, x3_5, x3_6⟩ := HC3.out _ HB2.out
  go_wp2_with fail
  refine (C4 _ HB2.out).out.mono ?_
  rintro e V3 ⟨rfl, hb⟩
  have HB3 := Lib.hid (HB2.out.trans (hb.mono HB2.out.size))
  clear hb x3_0 x3_1 x3_2 x3_3 x3_4 x3_5 x3_6
  obtain ⟨x7_0, x7_1, x7_2, x7_3, x7_4, x7_5, x7_6⟩ := HC7.out _ HB3.out
  go_wp2_with fail
  refine (C5 _ HB3.out).out.mono ?_
  rintro e V4 ⟨rfl, hb⟩
  have HB4 := Lib.hid (HB3.out.trans (hb.mono HB3.out.size))
  clear hb x7_0 x7_1 x7_2 x7_3 x7_4 x7_5 x7_6
  obtain ⟨x7_0, x7_1, x7_2, x7_3, x7_4, x7_5, x7_6⟩ := HC7.out _ HB4.out
  obtain ⟨x12_0, x12_1, x12_2⟩ := HC12.out _ HB4.out
  go_wp2_with fail
  refine (C6 _ HB4.out).out.mono ?_
  rintro e V5 ⟨rfl, hb⟩
  have HB5 := Lib.hid (HB4.out.trans (hb.mono HB4.out.size))
  clear hb x7_0 x7_1 x7_2 x7_3 x7_4 x7_5 x7_6 x12_0 x12_1 x12_2
  obtain ⟨x8_0, x8_1, x8_2, x8_3, x8_4, x8_5, x8_6⟩ := HC8.out _ HB5.out
  obtain ⟨x12_0, x12_1, x12_2⟩ := HC12.out _ HB5.out
  go_wp2_with fail
  refine (C7 _ HB5.out).out.mono ?_
  rintro e V6 ⟨rfl, hb⟩
  have HB6 := Lib.hid (HB5.out.trans (hb.mono HB5.out.size))
  clear hb x8_0 x8_1 x8_2 x8_3 x8_4 x8_5 x8_6 x12_0 x12_1 x12_2
  go_wp2_with fail
  refine (C8 _ HB6.out).out.mono ?_
  rintro e V7 ⟨rfl, hb⟩
  have HB7 := Lib.hid (HB6.out.trans (hb.mono HB6.out.size))
  clear hb 
  obtain ⟨x7_0, x7_1, x7_2, x7_3, x7_4, x7_5, x7_6⟩ := HC7.out _ HB7.out
  go_wp2_with fail
  refine (C9 _ HB7.out).out.mono ?_
  rintro e V8 ⟨rfl, hb⟩
  have HB8 := Lib.hid (HB7.out.trans (hb.mono HB7.out.size))
  clear hb x7_0 x7_1 x7_2 x7_3 x7_4 x7_5 x7_6
  obtain ⟨x3_0, x3_1, x3_2, x3_3, x3_4, x3_5, x3_6⟩ := HC3.out _ HB8.out
  go_wp2_with fail
  refine (C10 _ HB8.out).out.mono ?_
  rintro e V9 ⟨rfl, hb⟩
  have HB9 := Lib.hid (HB8.out.trans (hb.mono HB8.out.size))
  clear hb x3_0 x3_1 x3_2 x3_3 x3_4 x3_5 x3_6
  go_wp2_with fail
  go_ret
  exact ⟨rfl, HBL.out _ HB9.out⟩
end Go.Proofs.Ythlnfjbedehjdaa
