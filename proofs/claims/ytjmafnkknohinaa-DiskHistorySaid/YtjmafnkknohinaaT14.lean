import Derived.Test.YtjmafnkknohinaaT13
namespace Go.Proofs.Ytjmafnkknohinaa
open Go.RowKit Go.Shelf Go.Deep

/-- each of the values is a slice over a block of 128 zero bytes -/
def Zeros (w : World) (lo : Nat) (vals : List Value) : Prop := ∀ i, i < vals.length → ∃ g, lo ≤ g ∧ vals[i]? = some (.slice (some ⟨g, 0, none⟩) 128 128) ∧ w.heap[g]? = some (.cells z128.toArray 5 (0, 0))
theorem lt_heap {w : World} {g : Nat} {o : Obj} (h : w.heap[g]? = some o) : g < w.heap.size := by
  rcases Nat.lt_or_ge g w.heap.size with hl | hl
  · exact hl
  · rw [Array.getElem?_eq_none hl] at h; cases h
theorem Zeros.grown {w w' : World} {lo base n : Nat} {v : Value} {vals xs : List Value} (h : Zeros w lo vals) (hg : w.grownBy w' v.ownBlock) (ho : w.ownsRow base 35 1 v n xs) : Zeros w' lo vals := fun i hi => by
  obtain ⟨g, h1, h2, h3⟩ := h i hi
  refine ⟨g, h1, h2, (hg.block g (lt_heap h3) fun e => ?_).trans h3⟩
  rcases ho.2 with ⟨rfl, _⟩ | ⟨r, cap, cur, rfl, _, hr, _⟩
  · cases e
  · simp [Value.ownBlock] at e
    rw [e, hr] at h3
    injection h3 with h3; injection h3 with _ h4; cases h4
theorem Zeros.keep {w w' : World} {lo : Nat} {vals : List Value} (h : Zeros w lo vals) (hk : ∀ g, lo ≤ g → g < w.heap.size → w'.heap[g]? = w.heap[g]?) : Zeros w' lo vals := fun i hi => by
  obtain ⟨g, h1, h2, h3⟩ := h i hi
  exact ⟨g, h1, h2, (hk g h1 (lt_heap h3)).trans h3⟩
theorem Zeros.snoc {w : World} {lo g : Nat} {vals : List Value} (h : Zeros w lo vals) (hl : lo ≤ g) (hg : w.heap[g]? = some (.cells z128.toArray 5 (0, 0))) : Zeros w lo (vals ++ [.slice (some ⟨g, 0, none⟩) 128 128]) := fun i hi => by
  by_cases e : i < vals.length
  · obtain ⟨g', h1, h2, h3⟩ := h i e
    exact ⟨g', h1, by rw [List.getElem?_append_left e]; exact h2, h3⟩
  · simp at hi
    obtain rfl : i = vals.length := by omega
    exact ⟨g, hl, by simp, hg⟩

theorem cell_one_new' {h : Nat} (w : World) (v : Value) (t : TypeId) (e : w.heap.size = h) : ∀ j u, [v][j]? = some u → (w.alloc (.cells #[v] t)).cell? ((⟨h, 0, none⟩ : Addr).add j) = some u := by subst e; exact cell_one_new _ _ _
theorem one_slice (A : Option Addr) (n c : Nat) : ∀ u ∈ [Value.slice A n c], u.oneCell' = true := fun u hu => by simp at hu; subst hu; rfl
theorem grown_old {w w' : World} {base e sz n k : Nat} {v : Value} {xs : List Value} (hg : w.grownBy w' v.ownBlock) (ho : w.ownsRow base e sz v n xs) (hk : k < base) (hl : k < w.heap.size) : w'.heap[k]? = w.heap[k]? :=
  hg.block k hl fun e => by
    rcases ho.2 with ⟨rfl, _⟩ | ⟨r, cap, cur, rfl, hb, _⟩
    · cases e
    · simp [Value.ownBlock] at e; omega
theorem grown_two {w w' : World} {o1 o2 : Obj} {base e sz n : Nat} {v : Value} {xs : List Value} (hg : ((w.drew.alloc o1).alloc o2).grownBy w' v.ownBlock) (ho : w.ownsRow base e sz v n xs) (k : Nat) (hk : k < base) (hl : k < w.heap.size) : w'.heap[k]? = w.heap[k]? :=
  (grown_old hg ((ho.drew.alloc _).alloc _) hk (by simp; omega)).trans ((Below.heap_alloc _ _ k (by simp; omega)).trans (Below.heap_alloc w.drew _ k hl))
theorem new_step {w wr w1 : World} {k : Nat} {v : Value} {vals : List Value} (HO : wr.ownsRow (w.heap.size + 2) 35 1 v k vals) (HZ : Zeros wr (w.heap.size + 2) vals) (HB : Below w.heap.size w wr) (hsz : w.heap.size + 2 ≤ wr.heap.size)
    (hgrow : ((wr.drew.alloc (.cells z128.toArray 5)).alloc (.cells #[.slice (some ⟨wr.heap.size, 0, none⟩) 128 128] 35)).grownBy w1 v.ownBlock) (u : Value) :
    Zeros (w1.setCell ⟨w.heap.size + 1, 0, none⟩ u) (w.heap.size + 2) (vals ++ [.slice (some ⟨wr.heap.size, 0, none⟩) 128 128]) ∧ Below w.heap.size w (w1.setCell ⟨w.heap.size + 1, 0, none⟩ u) := by
  have ho2 := ((HO.drew).alloc (.cells z128.toArray 5)).alloc (.cells #[.slice (some ⟨wr.heap.size, 0, none⟩) 128 128] 35)
  constructor
  · have h1 : Zeros ((wr.drew.alloc (.cells z128.toArray 5)).alloc (.cells #[.slice (some ⟨wr.heap.size, 0, none⟩) 128 128] 35)) (w.heap.size + 2) vals :=
      HZ.keep fun g _ hl => (Below.heap_alloc _ _ g (by simp; omega)).trans (Below.heap_alloc wr.drew _ g hl)
    have h2 := h1.snoc (g := wr.heap.size) hsz ((Below.heap_alloc _ _ _ (by simp)).trans (heap_alloc_new wr.drew _))
    exact (h2.grown hgrow ho2).keep fun g hg _ => Below.heap_setCell _ _ _ _ (by simp; omega)
  · refine Below.setCell (Below.grown ((HB.drew.alloc (by simp; omega) _).alloc (by simp; omega) _) hgrow (by simp; omega) fun k e => ?_) (by simp) _
    rcases HO.2 with ⟨rfl, _⟩ | ⟨r, cap, cur, rfl, hb, _⟩
    · cases e
    · simp [Value.ownBlock] at e; omega
set_option maxHeartbeats 400000 in
theorem refNew_no (w : World) (x : Int) (h : ¬ (1 ≤ x ∧ x ≤ 4096)) : Calls Try.prog 13 #[.int .i64 x] w (RetDiskE w (fun b => w.heap.size ≤ b) (newD x)) := by
  have HS := Lib.hid (newD_no h)
  have hx' : x < 1 ∨ (1 ≤ x ∧ 4096 < x) := by omega
  clear h
  rcases hx' with hx | ⟨hx1, hx⟩
  all_goals
    go_enter Try.func13, Try.ntmps13
    go_wp2_with fail
    refine bodyPost_ret (v := .tuple #[.agg #[.slice none 0 0, .slice none 0 0, .int .i64 0, .bool false], .int .i64 1]) (by simp [results, Try.results13, go_sem]) rfl (RetDiskE.mk IsDisk.zero ?_ HS.out)
    exact (Below.refl _ _).alloc (Nat.le_refl _) _

set_option maxHeartbeats 400000 in
theorem refNew_yes (w : World) (n : Nat) (h1 : 1 ≤ n) (h2 : n ≤ 4096) : Calls Try.prog 13 #[.int .i64 n] w (RetDiskE w (fun b => w.heap.size ≤ b) (newD n)) := by
  have HS := Lib.hid (newD_yes h1 h2)
  have hmk := make128
  obtain ⟨i0, hi, hz0, hz1, hz2⟩ := info_parts Try.infoSl
  go_enter Try.func13, Try.ntmps13
  go_wp2_with fail
  go_loopw [5] (fun i wr => ∃ (k : Nat) (v : Value) (vals : List Value), k ≤ n ∧ i = .int .i64 k ∧ Hid (wr.heap[w.heap.size]? = some (.cells #[.slice none 0 0, .slice none 0 0, .int .i64 0, .bool false] 25 (0, 0))) ∧
    Hid (wr.heap[w.heap.size + 1]? = some (.cells #[v, .slice none 0 0, .int .i64 (-1), .bool false] 25 (0, 0))) ∧ Hid (wr.ownsRow (w.heap.size + 2) 35 1 v k vals) ∧ Hid (Zeros wr (w.heap.size + 2) vals) ∧ Hid (Below w.heap.size w wr)) (fun i _ => n - (intOf i).toNat)
  case atStart => 
    refine ⟨0, .slice none 0 0, [], Nat.zero_le _, rfl, ?_, ?_, ?_, ?_, ?_⟩
    · show _ = _
      simp only [heap_alloc_if, World.size_alloc]; repeat (first | rw [if_pos trivial] | rw [if_pos (by omega)] | rw [if_neg (by omega)])
    · show _ = _
      simp only [heap_alloc_if, World.size_alloc]; repeat (first | rw [if_pos trivial] | rw [if_pos (by omega)] | rw [if_neg (by omega)])
    · exact World.ownsRow_nil _ _ _ _
    · exact fun i hi => absurd hi (by simp)
    · exact ((Below.refl w.heap.size w).alloc (Nat.le_refl _) _).alloc (by simp) _
  case round =>
    obtain ⟨k, v, vals, hk, rfl, HK0, HK1, HO, HZ, HB⟩ := hrel
    by_cases hlt : k < n
    · have hlt' : (k : Int) < (n : Int) := by omega
      obtain ⟨⟨c0, c1, c2, c3⟩, ⟨f0, f1, f2, f3⟩⟩ := blk4 (Below.refl _ wr) HK1.out (Nat.lt_succ_self _)
      obtain ⟨vA, vc, rfl, _⟩ := own_cells HO.out
      go_wp2_with fail
      have hsz : w.heap.size + 2 ≤ wr.heap.size := lt_heap HK1.out
      have hsz1 : w.heap.size + 1 < wr.heap.size := hsz
      have hsz2 : w.heap.size < wr.heap.size := by omega
      go_region_law (refine step_append_lies _ rfl (.tmp 20) (.tmp 22) 22 rfl (w.heap.size + 2) 35 i0 (.slice none 0 0) 1 24 Try.underlying22 hi hz0 hz1 hz2 rfl (by decide) (.slice vA k vc) k vals (by go_simp) (by exact ((HO.out.drew).alloc _).alloc _) ⟨wr.heap.size + 1, 0, none⟩ 1 1 [.slice (some ⟨wr.heap.size, 0, none⟩) 128 128] (by go_simp) rfl (by exact cell_one_new' _ _ _ (by simp)) (by exact one_slice _ _ _) (by omega) (by unfold maxLen; omega) (by omega) (by simp; omega) (wr.heap.size + 2) (by simp) ?_; intro g cap w1 hown hgrow hat hlt1; have HG1 := Lib.hid (grown_two hgrow (by exact HO.out)); obtain ⟨⟨d0, d1, d2, d3⟩, ⟨g0, g1, g2, g3⟩⟩ := blk4 (Below.refl _ w1) ((HG1.out (w.heap.size + 1) (by omega) (by omega)).trans HK1.out) (Nat.lt_succ_self _))
      all_goals
        have HN := Lib.hid (new_step HO.out HZ.out HB.out hsz hgrow (.slice (some ⟨g, 0, none⟩) (k + 1) cap))
        have HO1 := Lib.hid hown
        clear hown hgrow hat c0 c1 c2 c3 f0 f1 f2 f3
        go_wp2_with fail
        go_roundw
        case rel => exact ⟨k + 1, .slice (some ⟨g, 0, none⟩) (k + 1) cap, vals ++ [Value.slice (some (⟨wr.heap.size, 0, none⟩ : Addr)) 128 128], by omega, by go_num, (Below.heap_setCell _ _ _ _ (by simp)).trans ((HG1.out _ (by omega) (by omega)).trans HK0.out), Blk_set ((HG1.out (w.heap.size + 1) (by omega) (by omega)).trans HK1.out) _, Lib.hid (ownsRow_setCell_below HO1.out (by simp) _), Lib.hid HN.out.1, Lib.hid HN.out.2⟩
        case measure => simp [intOf]; omega
    · obtain rfl : k = n := by omega
      obtain ⟨⟨c0, c1, c2, c3⟩, ⟨f0, f1, f2, f3⟩⟩ := blk4 (Below.refl _ wr) HK1.out (Nat.lt_succ_self _)
      obtain ⟨⟨r0, r1, r2, r3⟩, ⟨q0, q1, q2, q3⟩⟩ := blk4 (Below.refl _ wr) HK0.out (Nat.lt_succ_self _)
      obtain ⟨vA, vc, rfl, _⟩ := own_cells HO.out
      go_wp2_with fail
      refine bodyPost_ret (v := .tuple #[.agg #[.slice vA k vc, .slice none 0 0, .int .i64 (-1), .bool false], .int .i64 0]) (by simp [results, Try.results13, go_sem, r0, r1, r2, r3]) rfl ?_
      refine nameG (p := RetDiskE w _ _ _) fun wf hwf => ?_
      have hoff : Off w.heap.size wr wf := by rw [hwf.out]; repeat (first | refine Off.setCell ?_ _ _ | exact Off.refl _ _)
      have hbf : Below w.heap.size w wf := by rw [hwf.out]; repeat (first | refine Below.setCell ?_ (by simp) _ | exact HB.out)
      have hof : wf.ownsRow (w.heap.size + 2) 35 1 (.slice vA k vc) k vals := by
        rw [hwf.out]; repeat (first | refine ownsRow_setCell_below ?_ (by simp) _ | exact HO.out)
      refine RetDiskE.mk' (d := ⟨List.replicate k zs128, [], -1, false⟩) ⟨_, _, rfl, ?_, IsWrs.nil⟩ hbf HS.out
      refine mat_of_own hof (by simp) (fun i hi => ?_) (fun b hb => by omega)
      simp at hi
      have hvl : vals.length = k := by have := HO.out.1; simpa using this
      obtain ⟨g, hg1, hg2, hg3⟩ := HZ.out i (by omega)
      have hu : IsBytes wf (fun b => w.heap.size ≤ b) (.slice (some ⟨g, 0, none⟩) 128 128) zs128 :=
        ((bytes_z128 (M := fun b => w.heap.size < b) hg3 (by omega)).keep (fun p hp _ => hoff p (by omega))).mono fun b _ h => by omega
      simpa [List.getD_eq_getElem?_getD, hi, hg2] using hu
end Go.Proofs.Ytjmafnkknohinaa
