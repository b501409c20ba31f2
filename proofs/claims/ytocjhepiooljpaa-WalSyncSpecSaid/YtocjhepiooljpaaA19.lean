/- Sync of the reference, the whole contract. -/
import Derived.Test.YtocjhepiooljpaaA18
namespace Go.Proofs.Ytocjhepiooljpaa
open Go.RowKit Go.Deep Go.Shelf

set_option maxRecDepth 20000 in
set_option maxHeartbeats 4000000 in
theorem refSyncW_any (w : World) (M : Nat → Prop) (l : LogD) (lv : Value) (hL : IsLog w M lv l) (hf : FitR l.recs) (d : DiskD) (v : Value) (h : IsDisk w M v d) : Calls Try.prog 22 #[lv, v] w (RetSync w M (syncL l d)) := by
  by_cases hgo : okL l = true ∧ okB d = true ∧ d.stopped = false ∧ l.many = d.sectors.length ∧ d.pending = []
  · exact refSync_go w M l lv hL hf hgo.1 d v h hgo.2.1 hgo.2.2.1 hgo.2.2.2.1 hgo.2.2.2.2
  have HGO := Lib.hid hgo
  clear hgo
  obtain ⟨rv, rfl, rA, rc, rfl, hr1, hr2, hr3⟩ := id hL
  obtain ⟨sA, sc, pA, pc, rfl, hs1, hs2, hs3, hp1, hp2, hp3⟩ := h.parts
  obtain ⟨W1, hW1⟩ : ∃ W1, W1 = (((w.alloc (.cells #[.int .i64 l.many, .slice rA l.recs.length rc, .int .i64 l.synced] 29)).alloc (.cells #[.slice sA d.sectors.length sc, .slice pA d.pending.length pc, .int .i64 d.left, .bool d.stopped] 25)).alloc (.cells #[.int .i64 0, .slice none 0 0, .int .i64 0] 29)).alloc (.cells #[.slice none 0 0, .slice none 0 0, .int .i64 0, .bool false] 25) := ⟨_, rfl⟩
  have hB1 : Below w.heap.size w W1 := by rw [hW1]; exact ((((Below.refl w.heap.size w).alloc (Nat.le_refl _) _).alloc (by simp) _).alloc (by simp; omega) _).alloc (by simp; omega) _
  have hz : W1.heap.size = w.heap.size + 4 := by rw [hW1]; simp
  have C := Lib.hid (refLcheck_any W1 M l _ hf (hL.below hB1))
  have k0 : W1.heap[w.heap.size]? = some (.cells #[.int .i64 l.many, .slice rA l.recs.length rc, .int .i64 l.synced] 29 (0, 0)) := (by rw [hW1]; simp only [heap_alloc_if, World.size_alloc]; repeat (first | rw [if_pos trivial] | rw [if_pos (by omega)] | rw [if_neg (by omega)]))
  have k1 : W1.heap[w.heap.size + 1]? = some (.cells #[.slice sA d.sectors.length sc, .slice pA d.pending.length pc, .int .i64 d.left, .bool d.stopped] 25 (0, 0)) := (by rw [hW1]; simp only [heap_alloc_if, World.size_alloc]; repeat (first | rw [if_pos trivial] | rw [if_pos (by omega)] | rw [if_neg (by omega)]))
  have k2 : W1.heap[w.heap.size + 1 + 1]? = some (.cells #[.int .i64 0, .slice none 0 0, .int .i64 0] 29 (0, 0)) := (by rw [hW1]; simp only [heap_alloc_if, World.size_alloc]; repeat (first | rw [if_pos trivial] | rw [if_pos (by omega)] | rw [if_neg (by omega)]))
  have k3 : W1.heap[w.heap.size + 1 + 1 + 1]? = some (.cells #[.slice none 0 0, .slice none 0 0, .int .i64 0, .bool false] 25 (0, 0)) := (by rw [hW1]; simp only [heap_alloc_if, World.size_alloc]; repeat (first | rw [if_pos trivial] | rw [if_pos (by omega)] | rw [if_neg (by omega)]))
  have CD := Lib.hid fun (W : World) (hB : Below w.heap.size w W) => refCheck_any W M d _ (h.below hB)
  have HK0 := Lib.hid k0
  have HK1 := Lib.hid k1
  have HK2 := Lib.hid k2
  have HK3 := Lib.hid k3
  clear k0 k1 k2 k3
  have HW := Lib.hid hW1
  have HB := Lib.hid hB1
  have HZ := Lib.hid hz
  clear hB1 hz
  go_enter Try.func22, Try.ntmps22
  go_wp2_with fail
  try rw [← HW.out]
  clear hW1
  refine C.out.mono ?_
  rintro e w1 ⟨rfl, hb1⟩
  have hsz := hb1.size
  rw [HZ.out] at hsz
  obtain ⟨⟨a0, a1, a2⟩, ⟨aq0, aq1, aq2⟩⟩ := blk3 hb1 HK0.out (by rw [HZ.out]; omega)
  obtain ⟨⟨c0, c1, c2, c3⟩, ⟨f0, f1, f2, f3⟩⟩ := blk4 hb1 HK1.out (by rw [HZ.out]; omega)
  obtain ⟨⟨r0, r1, r2⟩, ⟨q0, q1, q2⟩⟩ := blk3 hb1 HK2.out (by rw [HZ.out]; omega)
  obtain ⟨⟨s0, s1, s2, s3⟩, ⟨p0, p1, p2, p3⟩⟩ := blk4 hb1 HK3.out (by rw [HZ.out]; omega)
  have HF := Lib.hid (HB.out.trans (hb1.mono HB.out.size))
  by_cases hlok : okL l = true
  · have hck : chkL l = 0 := by simp [chkL, hlok]
    rw [hck]
    clear hck
    go_wp2_with fail
    refine (CD.out _ HF.out).mono ?_
    rintro e w2 ⟨rfl, hb2⟩
    have hb12 := hb1.trans (hb2.mono (by rw [HZ.out]; exact hsz))
    have hsz2 := hb12.size
    rw [HZ.out] at hsz2
    clear a0 a1 a2 aq0 aq1 aq2 c0 c1 c2 c3 f0 f1 f2 f3 r0 r1 r2 q0 q1 q2 s0 s1 s2 s3 p0 p1 p2 p3 HF hb1 hb2 hsz
    obtain ⟨⟨a0, a1, a2⟩, ⟨aq0, aq1, aq2⟩⟩ := blk3 hb12 HK0.out (by rw [HZ.out]; omega)
    obtain ⟨⟨c0, c1, c2, c3⟩, ⟨f0, f1, f2, f3⟩⟩ := blk4 hb12 HK1.out (by rw [HZ.out]; omega)
    obtain ⟨⟨r0, r1, r2⟩, ⟨q0, q1, q2⟩⟩ := blk3 hb12 HK2.out (by rw [HZ.out]; omega)
    obtain ⟨⟨s0, s1, s2, s3⟩, ⟨p0, p1, p2, p3⟩⟩ := blk4 hb12 HK3.out (by rw [HZ.out]; omega)
    have HF := Lib.hid (HB.out.trans (hb12.mono HB.out.size))
    by_cases hok : okB d = true
    · rw [chk_of hok]
      cases hst : d.stopped
      · rw [hst] at c3
        by_cases hmp : l.many ≠ d.sectors.length ∨ d.pending ≠ []
        · have HS := Lib.hid (show syncL l d = (zeroL, zeroD, 1) by simp only [syncL, hlok, hok, hst, if_true, if_pos hmp]; rfl)
          clear hlok hok hst
          by_cases hm : l.many = d.sectors.length
          · have hp : d.pending ≠ [] := hmp.resolve_left (fun h => h hm)
            have hp0 : (0 : Int) < (d.pending.length : Int) := by have : d.pending.length ≠ 0 := fun e => hp (List.eq_nil_of_length_eq_zero e); omega
            have hm1 : (l.many != (d.sectors.length : Int)) = false := by rw [bne_eq_false_iff_eq]; exact hm
            clear hmp hm hp
            go_wp2_with fail
            refine bodyPost_ret (v := .tuple #[.agg #[.int .i64 0, .slice none 0 0, .int .i64 0], .agg #[.slice none 0 0, .slice none 0 0, .int .i64 0, .bool false], .int .i64 1]) (by simp [results, Try.results22, go_sem, r0, r1, r2, s0, s1, s2, s3]) rfl (RetSync.mk IsLog.zero IsDisk.zero ?_ HS.out)
            refine Below.setCell (Below.setCell (Below.setCell (Below.setCell (Below.setCell (Below.setCell (Below.setCell HF.out ?_ _) ?_ _) ?_ _) ?_ _) ?_ _) ?_ _) ?_ _ <;> (simp; try omega)
          · have hm1 : (l.many != (d.sectors.length : Int)) = true := by rw [bne_iff_ne]; exact hm
            clear hmp hm
            go_wp2_with fail
            refine bodyPost_ret (v := .tuple #[.agg #[.int .i64 0, .slice none 0 0, .int .i64 0], .agg #[.slice none 0 0, .slice none 0 0, .int .i64 0, .bool false], .int .i64 1]) (by simp [results, Try.results22, go_sem, r0, r1, r2, s0, s1, s2, s3]) rfl (RetSync.mk IsLog.zero IsDisk.zero ?_ HS.out)
            refine Below.setCell (Below.setCell (Below.setCell (Below.setCell (Below.setCell (Below.setCell (Below.setCell HF.out ?_ _) ?_ _) ?_ _) ?_ _) ?_ _) ?_ _) ?_ _ <;> (simp; try omega)
        · have hm : l.many = d.sectors.length := Decidable.byContradiction fun h => hmp (Or.inl h)
          have hp : d.pending = [] := Decidable.byContradiction fun h => hmp (Or.inr h)
          exact absurd ⟨hlok, hok, hst, hm, hp⟩ HGO.out
      · rw [hst] at c3
        have HS := Lib.hid (show syncL l d = (zeroL, zeroD, 340) by simp [syncL, hlok, hok, hst])
        clear hlok hok hst
        go_wp2_with fail
        refine bodyPost_ret (v := .tuple #[.agg #[.int .i64 0, .slice none 0 0, .int .i64 0], .agg #[.slice none 0 0, .slice none 0 0, .int .i64 0, .bool false], .int .i64 340]) (by simp [results, Try.results22, go_sem, r0, r1, r2, s0, s1, s2, s3]) rfl (RetSync.mk IsLog.zero IsDisk.zero ?_ HS.out)
        refine Below.setCell (Below.setCell (Below.setCell (Below.setCell (Below.setCell (Below.setCell (Below.setCell HF.out ?_ _) ?_ _) ?_ _) ?_ _) ?_ _) ?_ _) ?_ _ <;> (simp; try omega)
    · have hok' : okB d = false := by simpa using hok
      rw [chk_not hok']
      have HS := Lib.hid (show syncL l d = (zeroL, zeroD, 340) by simp [syncL, hlok, hok'])
      clear hlok hok hok'
      go_wp2_with fail
      refine bodyPost_ret (v := .tuple #[.agg #[.int .i64 0, .slice none 0 0, .int .i64 0], .agg #[.slice none 0 0, .slice none 0 0, .int .i64 0, .bool false], .int .i64 340]) (by simp [results, Try.results22, go_sem, r0, r1, r2, s0, s1, s2, s3]) rfl (RetSync.mk IsLog.zero IsDisk.zero ?_ HS.out)
      refine Below.setCell (Below.setCell (Below.setCell (Below.setCell (Below.setCell (Below.setCell (Below.setCell HF.out ?_ _) ?_ _) ?_ _) ?_ _) ?_ _) ?_ _) ?_ _ <;> (simp; try omega)
  · have hlk : okL l = false := by simpa using hlok
    have hck : chkL l = 1 := by simp [chkL, hlk]
    rw [hck]
    have HS := Lib.hid (show syncL l d = (zeroL, zeroD, 1) by simp [syncL, hlk])
    clear hlok hlk hck
    go_wp2_with fail
    refine bodyPost_ret (v := .tuple #[.agg #[.int .i64 0, .slice none 0 0, .int .i64 0], .agg #[.slice none 0 0, .slice none 0 0, .int .i64 0, .bool false], .int .i64 1]) (by simp [results, Try.results22, go_sem, r0, r1, r2, s0, s1, s2, s3]) rfl (RetSync.mk IsLog.zero IsDisk.zero ?_ HS.out)
    refine Below.setCell (Below.setCell (Below.setCell (Below.setCell (Below.setCell (Below.setCell (Below.setCell HF.out ?_ _) ?_ _) ?_ _) ?_ _) ?_ _) ?_ _) ?_ _ <;> (simp; try omega)
end Go.Proofs.Ytocjhepiooljpaa
