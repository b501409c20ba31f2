import Derived.Test.YtjmafnkknohinaaT4
import Derived.Maps.AppendAt
import Derived.Deep.AppendLies
import Derived.OwnWalk
namespace Go.Proofs.Ytjmafnkknohinaa
open Go.RowKit Go.Shelf

set_option maxHeartbeats 400000 in
theorem refStop_any (w : World) (M : Nat → Prop) (d : DiskD) (v : Value) (h : IsDisk w M v d) (x : Int) :
    Calls Try.prog 26 #[v, .int .i64 x] w (RetDiskE w M (stopD d x)) := by
  obtain ⟨sA, sc, pA, pc, rfl, hs1, hs2, hs3, hp1, hp2, hp3⟩ := h.parts
  obtain ⟨W1, hW1⟩ : ∃ W1, W1 = (w.alloc (.cells #[.slice sA d.sectors.length sc, .slice pA d.pending.length pc, .int .i64 d.left, .bool d.stopped] 25)).alloc (.cells #[.slice none 0 0, .slice none 0 0, .int .i64 0, .bool false] 25) := ⟨_, rfl⟩
  have hB1 : Below w.heap.size w W1 := by rw [hW1]; exact ((Below.refl w.heap.size w).alloc (Nat.le_refl _) _).alloc (by simp) _
  have hz : W1.heap.size = w.heap.size + 2 := by rw [hW1]; simp
  have k0 : W1.heap[w.heap.size]? = some (.cells #[.slice sA d.sectors.length sc, .slice pA d.pending.length pc, .int .i64 d.left, .bool d.stopped] 25 (0, 0)) := by rw [hW1]; exact heap2_0 _ _ _
  have k1 : W1.heap[w.heap.size + 1]? = some (.cells #[.slice none 0 0, .slice none 0 0, .int .i64 0, .bool false] 25 (0, 0)) := by rw [hW1]; exact heap2_1 _ _ _
  have C := Lib.hid (refCheck_any W1 M d _ (h.below hB1))
  have HW := Lib.hid hW1
  have HB := Lib.hid hB1
  have HZ := Lib.hid hz
  have HK0 := Lib.hid k0
  have HK1 := Lib.hid k1
  clear hB1 h hz k0 k1
  go_enter Try.func26, Try.ntmps26
  go_wp2_with fail
  rw [← HW.out]
  refine C.out.mono ?_
  rintro e w1 ⟨rfl, hb1⟩
  obtain ⟨⟨c0, c1, c2, c3⟩, ⟨f0, f1, f2, f3⟩⟩ := blk4 hb1 HK0.out (by rw [HZ.out]; omega)
  obtain ⟨⟨r0, r1, r2, r3⟩, ⟨q0, q1, q2, q3⟩⟩ := blk4 hb1 HK1.out (by rw [HZ.out]; omega)
  have hsz := hb1.size
  rw [HZ.out] at hsz
  have HF := Lib.hid (HB.out.trans (hb1.mono HB.out.size))
  clear hb1
  by_cases hr : runsB d = true
  · have ho : okB d = true := by simp [runsB] at hr; exact hr.1
    have hst : d.stopped = false := by simp [runsB] at hr; exact hr.2
    rw [chk_of ho]
    rw [hst] at c3
    by_cases hx : 0 ≤ x ∧ x ≤ 65536
    · have HS := Lib.hid (show stopD d x = (⟨d.sectors, d.pending, x, false⟩, 0) by simp only [stopD, hr, if_true, if_pos hx, hst])
      obtain ⟨hx1, hx2⟩ := hx
      clear hr ho hst
      go_wp2_with fail
      refine bodyPost_ret (v := .tuple #[.agg #[.slice sA d.sectors.length sc, .slice pA d.pending.length pc, .int .i64 x, .bool false], .int .i64 0]) (by simp [results, Try.results26, go_sem, r0, r1, r2, r3]) rfl (RetDiskE.mk (d := ⟨d.sectors, d.pending, x, false⟩) ⟨_, _, rfl, ⟨sA, sc, rfl, hs1, hs2, hs3⟩, ⟨pA, pc, rfl, hp1, hp2, hp3⟩⟩ ?_ HS.out)
      refine Below.setCell (Below.setCell (Below.setCell (Below.setCell (Below.setCell HF.out ?_ _) ?_ _) ?_ _) ?_ _) ?_ _ <;> simp
    · have HS := Lib.hid (show stopD d x = (zeroD, 1) by simp only [stopD, hr, if_true, if_neg hx])
      have hx' : x < 0 ∨ (0 ≤ x ∧ 65536 < x) := by omega
      clear hr hx ho hst
      rcases hx' with hx | ⟨hx1, hx⟩
      all_goals
        go_wp2_with fail
        refine bodyPost_ret (v := .tuple #[.agg #[.slice none 0 0, .slice none 0 0, .int .i64 0, .bool false], .int .i64 1]) (by simp [results, Try.results26, go_sem, r0, r1, r2, r3]) rfl (RetDiskE.mk IsDisk.zero ?_ HS.out)
        refine Below.setCell (Below.setCell (Below.setCell (Below.setCell HF.out ?_ _) ?_ _) ?_ _) ?_ _ <;> simp
  · have hr' : runsB d = false := by simpa using hr
    have HS := Lib.hid (show stopD d x = (zeroD, 340) by simp [stopD, hr'])
    by_cases ho : okB d = true
    · have hst : d.stopped = true := by simpa [runsB, ho] using hr'
      rw [chk_of ho]
      rw [hst] at c3
      clear hr hr' ho hst
      go_wp2_with fail
      refine bodyPost_ret (v := .tuple #[.agg #[.slice none 0 0, .slice none 0 0, .int .i64 0, .bool false], .int .i64 340]) (by simp [results, Try.results26, go_sem, r0, r1, r2, r3]) rfl (RetDiskE.mk IsDisk.zero ?_ HS.out)
      refine Below.setCell (Below.setCell (Below.setCell (Below.setCell HF.out ?_ _) ?_ _) ?_ _) ?_ _ <;> simp
    · rw [chk_not (by simpa using ho)]
      clear hr hr' ho
      go_wp2_with fail
      refine bodyPost_ret (v := .tuple #[.agg #[.slice none 0 0, .slice none 0 0, .int .i64 0, .bool false], .int .i64 340]) (by simp [results, Try.results26, go_sem, r0, r1, r2, r3]) rfl (RetDiskE.mk IsDisk.zero ?_ HS.out)
      refine Below.setCell (Below.setCell (Below.setCell (Below.setCell HF.out ?_ _) ?_ _) ?_ _) ?_ _ <;> simp

/- clones -/
/-- the cells of n elements of sz cells, one behind the other -/
def flat (sz n : Nat) (f : Nat → Nat → Value) : List Value := (List.range (n * sz)).map fun j => f (j / sz) (j % sz)
theorem flat_length (sz n : Nat) (f : Nat → Nat → Value) : (flat sz n f).length = n * sz := by simp [flat]
theorem flat_get {sz n j : Nat} {f : Nat → Nat → Value} {u : Value} (h : (flat sz n f)[j]? = some u) : j < n * sz ∧ u = f (j / sz) (j % sz) := by
  unfold flat at h
  rw [List.getElem?_map] at h
  rcases Nat.lt_or_ge j (n * sz) with hl | hl
  · rw [List.getElem?_range hl] at h
    exact ⟨hl, by simpa using h.symm⟩
  · rw [List.getElem?_eq_none (by simpa using hl)] at h
    cases h
theorem Cells.flat {w : World} {M : Nat → Prop} {sz n : Nat} {A : Option Addr} {f : Nat → Nat → Value} (h : Cells w M sz A n f) (hn : 0 < n) (hsz : 0 < sz) :
    ∃ ad, A = some ad ∧ ∀ j u, (flat sz n f)[j]? = some u → w.cell? (ad.add j) = some u := by
  obtain ⟨b, off, e, _, hc⟩ := h hn
  refine ⟨_, e, fun j u hu => ?_⟩
  obtain ⟨hl, rfl⟩ := flat_get hu
  have h1 := hc (j / sz) (j % sz) ((Nat.div_lt_iff_lt_mul hsz).2 hl) (Nat.mod_lt _ hsz)
  rw [Nat.add_assoc, Nat.mul_comm, Nat.div_add_mod] at h1
  rw [← h1]
  unfold Addr.add
  split
  · subst_vars; rfl
  · rfl

def RetOwn (w : World) (e : TypeId) (sz n : Nat) (xs : List Value) (en : Ending) (w' : World) : Prop := ∃ v, en = .returned v ∧ w'.ownsRow w.heap.size e sz v n xs ∧ Below w.heap.size w w'

theorem Try.infoSl : (Try.prog.info? 35).map (fun i => (i.zero, i.size, i.bytes)) = some (some (.slice none 0 0), 1, 24) := by kernel_rfl
theorem Try.infoWr : (Try.prog.info? 53).map (fun i => (i.zero, i.size, i.bytes)) = some (some (.agg #[.int .i64 0, .slice none 0 0]), 2, 32) := by kernel_rfl

theorem cells_alloc {w : World} {M : Nat → Prop} {sz n : Nat} {ad : Addr} {f : Nat → Nat → Value} (hc : Cells w M sz (some ad) n f) (hsz : 0 < sz) (o : Obj) :
    ∀ j u, (flat sz n f)[j]? = some u → (w.alloc o).cell? (ad.add j) = some u := by
  intro j u hu
  obtain ⟨hl, _⟩ := flat_get hu
  have hn : 0 < n := by
    rcases Nat.eq_zero_or_pos n with h | h
    · subst h; omega
    · exact h
  obtain ⟨ad', e, hh⟩ := hc.flat hn hsz
  obtain rfl : ad = ad' := by injection e
  have := hh j u hu
  rw [World.cell?_alloc_lt _ _ _ (lt_of_cell this)]
  exact this

set_option maxHeartbeats 400000 in
theorem cloneMat_any (w : World) (M : Nat → Prop) (A : Option Addr) (n c : Nat) (f : Nat → Nat → Value) (hn : n * 24 ≤ 140737488355328) (hA : A = none → n = 0) (hc : Cells w M 1 A n f) (h1 : ∀ u ∈ flat 1 n f, u.oneCell' = true) :
    Calls Try.prog 44 #[.slice A n c] w (RetOwn w 35 1 n (flat 1 n f)) := by
  obtain ⟨i0, hi, hz0, hz1, hz2⟩ := info_parts Try.infoSl
  have hnil := fun w => Lib.run_eql_slice_nil (P := Try.prog) w 22 35 A n c 0 0 Try.underlying22
  cases A with
  | none =>
    obtain rfl := hA rfl
    clear hA hc h1
    go_enter Try.func44, Try.ntmps44
    go_wp2_with fail
    go_ret
    exact ⟨_, rfl, World.ownsRow_nil _ _ _ _, Below.refl _ _⟩
  | some ad =>
    have HK := Lib.hid (cells_alloc hc (by omega) (.cells #[] 35))
    have H1 := Lib.hid h1
    clear hc h1 hA
    go_enter Try.func44, Try.ntmps44
    go_wp2_with (at_builtin; refine wpList_append_own _ rfl _ _ 22 rfl w.heap.size 35 i0 (.slice none 0 0) 1 24 Try.underlying22 hi hz0 hz1 hz2 rfl (by decide) _ 0 [] rfl ?own ad n c (flat 1 n f) rfl ?hl ?c1 ?c2 ?c3 ?c4 ?c5 ?_)
    case own => exact World.ownsRow_made _ _ _ (Nat.le_refl _) (by unfold maxLen; omega) (by simp)
    case hl => exact flat_length _ _ _
    case c1 => exact HK.out
    case c2 => exact H1.out
    case c3 => unfold maxLen; omega
    case c4 => omega
    case c5 => simp
    intro v' w1 hown hgrow _
    go_wp2_with fail
    go_ret
    refine ⟨_, rfl, by simpa using hown, ?_⟩
    exact (((Below.refl w.heap.size w).alloc (Nat.le_refl _) _)).grown hgrow (by simp) (fun k e => by simp [Value.ownBlock] at e; omega)

set_option maxHeartbeats 400000 in
theorem cloneWrs_any (w : World) (M : Nat → Prop) (A : Option Addr) (n c : Nat) (f : Nat → Nat → Value) (hn : n * 32 ≤ 140737488355328) (hA : A = none → n = 0) (hc : Cells w M 2 A n f) (h1 : ∀ u ∈ flat 2 n f, u.oneCell' = true) :
    Calls Try.prog 37 #[.slice A n c] w (RetOwn w 53 2 n (flat 2 n f)) := by
  obtain ⟨i0, hi, hz0, hz1, hz2⟩ := info_parts Try.infoWr
  have hnil := fun w => Lib.run_eql_slice_nil (P := Try.prog) w 23 53 A n c 0 0 Try.underlying23
  cases A with
  | none =>
    obtain rfl := hA rfl
    clear hA hc h1
    go_enter Try.func37, Try.ntmps37
    go_wp2_with fail
    go_ret
    exact ⟨_, rfl, World.ownsRow_nil _ _ _ _, Below.refl _ _⟩
  | some ad =>
    have HK := Lib.hid (cells_alloc hc (by omega) (.cells #[] 53))
    have H1 := Lib.hid h1
    clear hc h1 hA
    go_enter Try.func37, Try.ntmps37
    go_wp2_with (at_builtin; refine wpList_append_own _ rfl _ _ 23 rfl w.heap.size 53 i0 (.agg #[.int .i64 0, .slice none 0 0]) 2 32 Try.underlying23 hi hz0 hz1 hz2 rfl (by decide) _ 0 [] rfl ?own ad n c (flat 2 n f) rfl ?hl ?c1 ?c2 ?c3 ?c4 ?c5 ?_)
    case own => exact World.ownsRow_made _ _ _ (Nat.le_refl _) (by unfold maxLen; omega) (by simp)
    case hl => exact flat_length _ _ _
    case c1 => exact HK.out
    case c2 => exact H1.out
    case c3 => unfold maxLen; omega
    case c4 => omega
    case c5 => simp
    intro v' w1 hown hgrow _
    go_wp2_with fail
    go_ret
    refine ⟨_, rfl, by simpa using hown, ?_⟩
    exact (((Below.refl w.heap.size w).alloc (Nat.le_refl _) _)).grown hgrow (by simp) (fun k e => by simp [Value.ownBlock] at e; omega)
end Go.Proofs.Ytjmafnkknohinaa
