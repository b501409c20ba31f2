import Derived.Test.YtocjhepiooljpaaT12
import Derived.Test.YtocjhepiooljpaaT10
namespace Go.Proofs.Ytocjhepiooljpaa
open Go.RowKit Go.Shelf Go.Deep

def zs128 : List UInt8 := List.replicate 128 0
def newD (n : Int) : DiskD × Int := if 1 ≤ n ∧ n ≤ 4096 then (⟨List.replicate n.toNat zs128, [], -1, false⟩, 0) else (zeroD, 1)
theorem newD_yes {n : Nat} (h1 : 1 ≤ n) (h2 : n ≤ 4096) : newD n = (⟨List.replicate n zs128, [], -1, false⟩, 0) := by
  unfold newD; rw [if_pos (by omega), Int.toNat_natCast]
theorem newD_no {n : Int} (h : ¬ (1 ≤ n ∧ n ≤ 4096)) : newD n = (zeroD, 1) := by unfold newD; rw [if_neg h]
theorem zs128_map : zs128.map byt = z128 := by unfold zs128 z128; rw [List.map_replicate]; rfl
theorem zs128_length : zs128.length = 128 := by unfold zs128; rw [List.length_replicate]
theorem bytes_z128 {w : World} {M : Nat → Prop} {g : Nat} {t : TypeId} (h : w.heap[g]? = some (.cells z128.toArray t (0, 0))) (hM : M g) : IsBytes w M (.slice (some ⟨g, 0, none⟩) 128 128) zs128 := by
  rw [← zs128_map] at h
  have := bytes_of_block (M := M) h hM (by rw [zs128_length]; omega)
  rwa [zs128_length] at this
/-- a row that the call owns, whose cells all read as byte lists -/
theorem mat_of_own {w' : World} {M : Nat → Prop} {base : Nat} {e : TypeId} {v : Value} {n : Nat} {vals : List Value} {ss : List (List UInt8)} (hown : w'.ownsRow base e 1 v n vals) (hn : n = ss.length)
    (hg : ∀ i, i < ss.length → IsBytes w' M (vals.getD i .nilIface) (ss.getD i [])) (hM : ∀ b, base ≤ b → M b) : IsMat w' M v ss := by
  subst hn
  obtain ⟨A, c, rfl, h1, h2, h3⟩ := own_cells1 hown
  exact ⟨A, c, rfl, h1, h2, _, h3.mono (fun b _ h => hM b h) (by omega), hg⟩

set_option maxHeartbeats 400000 in
theorem new_no (w : World) (x : Int) (h : ¬ (1 ≤ x ∧ x ≤ 4096)) : Calls Try.prog 25 #[.int .i64 x] w (RetDiskE w (fun b => w.heap.size ≤ b) (newD x)) := by
  have HS := Lib.hid (newD_no h)
  have hx' : x < 1 ∨ (1 ≤ x ∧ 4096 < x) := by omega
  clear h
  rcases hx' with hx | ⟨hx1, hx⟩
  all_goals
    go_enter Try.func25, Try.ntmps25
    go_wp2_with fail
    refine bodyPost_ret (v := .tuple #[.agg #[.slice none 0 0, .slice none 0 0, .int .i64 0, .bool false], .int .i64 1]) (by simp [results, Try.results25, go_sem]) rfl (RetDiskE.mk IsDisk.zero ?_ HS.out)
    exact (Below.refl _ _).alloc (Nat.le_refl _) _

theorem Below.size' {B : Nat} {w w' : World} (h : Below B w w') : w.heap.size ≤ w'.heap.size := h.size
set_option maxHeartbeats 400000 in
theorem new_yes (w : World) (n : Nat) (h1 : 1 ≤ n) (h2 : n ≤ 4096) : Calls Try.prog 25 #[.int .i64 n] w (RetDiskE w (fun b => w.heap.size ≤ b) (newD n)) := by
  have HS := Lib.hid (newD_yes h1 h2)
  have hmk := make128
  go_enter Try.func25, Try.ntmps25
  go_wp2_with fail
  refine nameW fun W1 hW1 => ?_
  have hz : W1.heap.size = w.heap.size + 3 := by rw [hW1.out]; simp
  have hB1 : Below w.heap.size w W1 := by rw [hW1.out]; exact (((Below.refl w.heap.size w).alloc (Nat.le_refl _) _).alloc (by simp) _).alloc (by simp; omega) _
  have k0 : W1.heap[w.heap.size]? = some (.cells #[.slice none 0 0, .slice none 0 0, .int .i64 0, .bool false] 25 (0, 0)) := (by rw [hW1.out]; simp only [heap_alloc_if, World.size_alloc]; repeat (first | rw [if_pos trivial] | rw [if_pos (by omega)] | rw [if_neg (by omega)]))
  have k1 : W1.heap[w.heap.size + 1]? = some (.cells z128.toArray 5 (0, 0)) := (by rw [hW1.out]; simp only [heap_alloc_if, World.size_alloc]; repeat (first | rw [if_pos trivial] | rw [if_pos (by omega)] | rw [if_neg (by omega)]))
  have c2 : W1.cell? ⟨w.heap.size + 1 + 1, 0, none⟩ = some (.slice (some ⟨w.heap.size + 1, 0, none⟩) 128 128) := cell_of (by rw [hW1.out]; simp only [heap_alloc_if, World.size_alloc]; repeat (first | rw [if_pos trivial] | rw [if_pos (by omega)] | rw [if_neg (by omega)])) rfl
  have C := Lib.hid (repeat_any W1 ⟨w.heap.size + 1 + 1, 0, none⟩ 1 n _ h1 h2 c2 rfl)
  have HK0 := Lib.hid k0
  have HK1 := Lib.hid k1
  have HZ := Lib.hid hz
  clear hW1 c2 k0 k1 hz hmk
  refine C.out.mono ?_
  rintro e w2 ⟨v2, rfl, hown, hb2⟩
  obtain ⟨⟨r0, r1, r2, r3⟩, ⟨q0, q1, q2, q3⟩⟩ := blk4 hb2 HK0.out (by rw [HZ.out]; omega)
  have HK2 := Lib.hid ((hb2.block (w.heap.size + 1) (by rw [HZ.out]; omega)).trans HK1.out)
  have HX := Lib.hid (hB1.trans (hb2.mono hB1.size))
  obtain ⟨A2, c2, rfl, hn1, hn2, _⟩ := own_cells1 hown
  have HO := Lib.hid hown
  have hsz := hb2.size
  rw [HZ.out] at hsz
  rw [HZ.out] at HO
  clear hb2 hB1 hown
  go_wp2_with fail
  refine bodyPost_ret (v := .tuple #[.agg #[.slice A2 n c2, .slice none 0 0, .int .i64 (-1), .bool false], .int .i64 0]) (by simp [results, Try.results25, go_sem, r0, r1, r2, r3]) rfl ?_
  refine nameG (p := RetDiskE w _ _ _) fun wf hwf => ?_
  have hoff : Off w.heap.size w2 wf := by rw [hwf.out]; repeat (first | refine Off.setCell ?_ _ _ | exact Off.refl _ _)
  have hbf : Below w.heap.size w wf := by rw [hwf.out]; repeat (first | refine Below.setCell ?_ (by simp) _ | exact HX.out)
  have hu : IsBytes wf (fun b => w.heap.size ≤ b) (.slice (some ⟨w.heap.size + 1, 0, none⟩) 128 128) zs128 :=
    ((bytes_z128 (M := fun b => w.heap.size < b) HK2.out (by omega)).keep (fun p hp _ => hoff p (by omega))).mono fun b _ h => by omega
  have hof : wf.ownsRow (w.heap.size + 3) 35 1 (.slice A2 n c2) n (List.replicate n (.slice (some ⟨w.heap.size + 1, 0, none⟩) 128 128)) := by
    rw [hwf.out]; repeat (first | refine ownsRow_setCell_below ?_ (by simp) _ | exact HO.out)
  refine RetDiskE.mk' (d := ⟨List.replicate n zs128, [], -1, false⟩) ⟨_, _, rfl, ?_, IsWrs.nil⟩ hbf HS.out
  refine mat_of_own hof (by simp) (fun i hi => ?_) (fun b hb => by omega)
  simp at hi
  simpa [List.getD_eq_getElem?_getD, hi] using hu
end Go.Proofs.Ytocjhepiooljpaa
