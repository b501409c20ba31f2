/- Sync of package wal, the whole contract. -/
import Derived.Test.YtocjhepiooljpaaA20
namespace Go.Proofs.Ytocjhepiooljpaa
open Go.RowKit Go.Deep Go.Shelf

set_option maxRecDepth 20000 in
set_option maxHeartbeats 4000000 in
theorem syncW_any (w : World) (M : Nat → Prop) (l : LogD) (lv : Value) (hL : IsLog w M lv l) (hf : FitR l.recs) (d : DiskD) (v : Value) (h : IsDisk w M v d) : Calls Try.prog 21 #[lv, v] w (RetSync w M (syncL l d)) := by
  by_cases hgo : okL l = true ∧ okB d = true ∧ d.stopped = false ∧ l.many = d.sectors.length ∧ d.pending = []
  · exact sync_go w M l lv hL hf hgo.1 d v h hgo.2.1 hgo.2.2.1 hgo.2.2.2.1 hgo.2.2.2.2
  have HGO := Lib.hid hgo
  clear hgo
  obtain ⟨rv, rfl, rA, rc, rfl, hr1, hr2, hr3⟩ := id hL
  obtain ⟨sA, sc, pA, pc, rfl, hs1, hs2, hs3, hp1, hp2, hp3⟩ := h.parts
  obtain ⟨W1, hW1⟩ : ∃ W1, W1 = (((w.alloc (.cells #[.int .i64 l.many, .slice rA l.recs.length rc, .int .i64 l.synced] 29)).alloc (.cells #[.slice sA d.sectors.length sc, .slice pA d.pending.length pc, .int .i64 d.left, .bool d.stopped] 25)).alloc (.cells #[.int .i64 0, .slice none 0 0, .int .i64 0] 29)).alloc (.cells #[.slice none 0 0, .slice none 0 0, .int .i64 0, .bool false] 25) := ⟨_, rfl⟩
  have hB1 : Below w.heap.size w W1 := by rw [hW1]; exact ((((Below.refl w.heap.size w).alloc (Nat.le_refl _) _).alloc (by simp) _).alloc (by simp; omega) _).alloc (by simp; omega) _
  have hz : W1.heap.size = w.heap.size + 4 := by rw [hW1]; simp
  have C := Lib.hid (lcheck_any W1 M l _ hf (hL.below hB1))
  have k0 : W1.heap[w.heap.size]? = some (.cells #[.int .i64 l.many, .slice rA l.recs.length rc, .int .i64 l.synced] 29 (0, 0)) := (by rw [hW1]; simp only [heap_alloc_if, World.size_alloc]; repeat (first | rw [if_pos trivial] | rw [if_pos (by omega)] | rw [if_neg (by omega)]))
  have k1 : W1.heap[w.heap.size + 1]? = some (.cells #[.slice sA d.sectors.length sc, .slice pA d.pending.length pc, .int .i64 d.left, .bool d.stopped] 25 (0, 0)) := (by rw [hW1]; simp only [heap_alloc_if, World.size_alloc]; repeat (first | rw [if_pos trivial] | rw [if_pos (by omega)] | rw [if_neg (by omega)]))
  have k2 : W1.heap[w.heap.size + 1 + 1]? = some (.cells #[.int .i64 0, .slice none 0 0, .int .i64 0] 29 (0, 0)) := (by rw [hW1]; simp only [heap_alloc_if, World.size_alloc]; repeat (first | rw [if_pos trivial] | rw [if_pos (by omega)] | rw [if_neg (by omega)]))
  have k3 : W1.heap[w.heap.size + 1 + 1 + 1]? = some (.cells #[.slice none 0 0, .slice none 0 0, .int .i64 0, .bool false] 25 (0, 0)) := (by rw [hW1]; simp only [heap_alloc_if, World.size_alloc]; repeat (first | rw [if_pos trivial] | rw [if_pos (by omega)] | rw [if_neg (by omega)]))
  have CD := Lib.hid fun (W : World) (hB : Below w.heap.size w W) => check_any W M d _ (h.below hB)
  have HK0 := Lib.hid k0
  have HK1 := Lib.hid k1
  have HK2 := Lib.hid k2
  have HK3 := Lib.hid k3
  clear k0 k1 k2 k3
  have HW := Lib.hid hW1
  have HB := Lib.hid hB1
  have HZ := Lib.hid hz
  clear hB1 hz
  go_enter Try.func21, Try.ntmps21
  go_wp2_with fail
  try rw [← HW.out]
  clear hW1
  refine C.out.mono ?_
  rintro e w1 ⟨rfl, hb1⟩
  have hsz := hb1.size
  rw [HZ.out] at hsz
  obtain ⟨⟨a0, a1, a2⟩, ⟨aq0, aq1, aq2⟩⟩ := blk3 hb1 HK0.out (by rw [HZ.out]; omega)
  obtain ⟨⟨c0, c1, c2, c3⟩, ⟨f0, f1, f2, f3⟩⟩ := blk4 hb1 HK1.out (by rw [HZ.out]; omega)
  obtain ⟨⟨r0, r1, r2⟩, ⟨q0, q1, q2⟩⟩ := blk3 hb1 HK2.out (by rw [HZ.out]; omega)
  obtain ⟨⟨s0, s1, s2, s3⟩, ⟨p0, p1, p2, p3⟩⟩ := blk4 hb1 HK3.out (by rw [HZ.out]; omega)
  have HF := Lib.hid (HB.out.trans (hb1.mono HB.out.size))
  by_cases hlok : okL l = true
  · have hck : chkL l = 0 := by simp [chkL, hlok]
    rw [hck]
    clear hck
    go_wp2_with fail
    refine (CD.out _ HF.out).mono ?_
    rintro e w2 ⟨rfl, hb2⟩
    have hb12 := hb1.trans (hb2.mono (by rw [HZ.out]; exact hsz))
    have hsz2 := hb12.size
    rw [HZ.out] at hsz2
    clear a0 a1 a2 aq0 aq1 aq2 c0 c1 c2 c3 f0 f1 f2 f3 r0 r1 r2 q0 q1 q2 s0 s1 s2 s3 p0 p1 p2 p3 HF hb1 hb2 hsz
    obtain ⟨⟨a0, a1, a2⟩, ⟨aq0, aq1, aq2⟩⟩ := blk3 hb12 HK0.out (by rw [HZ.out]; omega)
    obtain ⟨⟨c0, c1, c2, c3⟩, ⟨f0, f1, f2, f3⟩⟩ := blk4 hb12 HK1.out (by rw [HZ.out]; omega)
    obtain ⟨⟨r0, r1, r2⟩, ⟨q0, q1, q2⟩⟩ := blk3 hb12 HK2.out (by rw [HZ.out]; omega)
    obtain ⟨⟨s0, s1, s2, s3⟩, ⟨p0, p1, p2, p3⟩⟩ := blk4 hb12 HK3.out (by rw [HZ.out]; omega)
    have HF := Lib.hid (HB.out.trans (hb12.mono HB.out.size))
    by_cases hok : okB d = true
    · rw [chk_of hok]
      have HF2 := Lib.hid (HB.out.trans (hb12.mono HB.out.size))
      by_cases hA : l.many ≠ d.sectors.length ∧ d.stopped = false
      · have HS := Lib.hid (show syncL l d = (zeroL, zeroD, 1) by
          unfold syncL
          rw [if_pos hlok, if_pos hok, hA.2, if_neg (by simp), if_pos (.inl hA.1)])
        have hm1 : (l.many != (d.sectors.length : Int)) = true := by rw [bne_iff_ne]; exact hA.1
        rw [hA.2] at c3
        clear hlok hok hA
        go_wp2_with fail
        refine bodyPost_ret (v := .tuple #[.agg #[.int .i64 0, .slice none 0 0, .int .i64 0], .agg #[.slice none 0 0, .slice none 0 0, .int .i64 0, .bool false], .int .i64 1]) (by simp [results, Try.results21, go_sem, r0, r1, r2, s0, s1, s2, s3]) rfl (RetSync.mk IsLog.zero IsDisk.zero ?_ HS.out)
        refine Below.setCell (Below.setCell (Below.setCell (Below.setCell (Below.setCell (Below.setCell (Below.setCell HF.out ?_ _) ?_ _) ?_ _) ?_ _) ?_ _) ?_ _) ?_ _ <;> (simp; try omega)
      · obtain ⟨cd, ho, hcd0, hsy⟩ : ∃ cd, openL d = (zeroL, cd) ∧ cd ≠ 0 ∧ syncL l d = (zeroL, zeroD, cd) := by
          unfold openL syncL
          rw [if_pos hlok, if_pos hok, if_pos hok]
          cases hst : d.stopped
          · have hm : l.many = d.sectors.length := Decidable.byContradiction fun h => hA ⟨h, hst⟩
            have hp : d.pending ≠ [] := fun hp => HGO.out ⟨hlok, hok, hst, hm, hp⟩
            exact ⟨1, by rw [if_neg (by simp), if_pos hp], by decide, by rw [if_neg (by simp), if_pos (.inr hp)]⟩
          · exact ⟨340, if_pos rfl, by decide, if_pos rfl⟩
        have hcb : (cd != 0) = true := by rw [bne_iff_ne]; exact hcd0
        have CO := Lib.hid (open_any w2 M d _ (h.below HF2.out))
        rw [ho] at CO
        have HS := Lib.hid hsy
        have HBB := Lib.hid hb12
        have hA2 : ((l.many != (d.sectors.length : Int)) = true ∧ d.stopped = true) ∨ (l.many != (d.sectors.length : Int)) = false := by
          by_cases hm : l.many = d.sectors.length
          · exact .inr (by rw [bne_eq_false_iff_eq]; exact hm)
          · refine .inl ⟨by rw [bne_iff_ne]; exact hm, ?_⟩
            cases hst : d.stopped
            · exact absurd ⟨hm, hst⟩ hA
            · rfl
        clear ho hcd0 hsy hlok hok hA HF
        rcases hA2 with ⟨hm1, hst⟩ | hm1
        · rw [hst] at c3
          have HST := Lib.hid hst
          rw [hst] at CO
          clear hst
          go_upto_region 10 with (go_at_call 12; refine CO.out.mono ?_; rintro e w5 ⟨v5, rfl, ⟨rv5, rfl, nA, nc, rfl, hn1, hn2, hn3⟩, hb5⟩; have HB5 := Lib.hid hb5; clear hn3 hb5)
          refine nameG fun W6 hW6 => ?_
          have HB6 := Lib.hid (HBB.out.trans ((show Below w2.heap.size w2 W6 by rw [hW6.out]; exact HB5.out.alloc HB5.out.size _).mono HBB.out.size))
          have hsz6 := HB6.out.size
          rw [HZ.out] at hsz6
          clear hW6 a0 a1 a2 aq0 aq1 aq2 c0 c1 c2 c3 f0 f1 f2 f3 r0 r1 r2 q0 q1 q2 s0 s1 s2 s3 p0 p1 p2 p3
          obtain ⟨⟨r0, r1, r2⟩, ⟨q0, q1, q2⟩⟩ := blk3 HB6.out HK2.out (by rw [HZ.out]; omega)
          obtain ⟨⟨s0, s1, s2, s3⟩, ⟨p0, p1, p2, p3⟩⟩ := blk4 HB6.out HK3.out (by rw [HZ.out]; omega)
          have HF := Lib.hid (HB.out.trans (HB6.out.mono HB.out.size))
          go_wp2_with fail
          refine bodyPost_ret (v := .tuple #[.agg #[.int .i64 0, .slice none 0 0, .int .i64 0], .agg #[.slice none 0 0, .slice none 0 0, .int .i64 0, .bool false], .int .i64 cd]) (by simp [results, Try.results21, go_sem, r0, r1, r2, s0, s1, s2, s3]) rfl (RetSync.mk IsLog.zero IsDisk.zero ?_ HS.out)
          refine Below.setCell (Below.setCell (Below.setCell (Below.setCell (Below.setCell (Below.setCell (Below.setCell HF.out ?_ _) ?_ _) ?_ _) ?_ _) ?_ _) ?_ _) ?_ _ <;> (simp; try omega)
        · skip
          go_upto_region 10 with (go_at_call 12; refine CO.out.mono ?_; rintro e w5 ⟨v5, rfl, ⟨rv5, rfl, nA, nc, rfl, hn1, hn2, hn3⟩, hb5⟩; have HB5 := Lib.hid hb5; clear hn3 hb5)
          refine nameG fun W6 hW6 => ?_
          have HB6 := Lib.hid (HBB.out.trans ((show Below w2.heap.size w2 W6 by rw [hW6.out]; exact HB5.out.alloc HB5.out.size _).mono HBB.out.size))
          have hsz6 := HB6.out.size
          rw [HZ.out] at hsz6
          clear hW6 a0 a1 a2 aq0 aq1 aq2 c0 c1 c2 c3 f0 f1 f2 f3 r0 r1 r2 q0 q1 q2 s0 s1 s2 s3 p0 p1 p2 p3
          obtain ⟨⟨r0, r1, r2⟩, ⟨q0, q1, q2⟩⟩ := blk3 HB6.out HK2.out (by rw [HZ.out]; omega)
          obtain ⟨⟨s0, s1, s2, s3⟩, ⟨p0, p1, p2, p3⟩⟩ := blk4 HB6.out HK3.out (by rw [HZ.out]; omega)
          have HF := Lib.hid (HB.out.trans (HB6.out.mono HB.out.size))
          go_wp2_with fail
          refine bodyPost_ret (v := .tuple #[.agg #[.int .i64 0, .slice none 0 0, .int .i64 0], .agg #[.slice none 0 0, .slice none 0 0, .int .i64 0, .bool false], .int .i64 cd]) (by simp [results, Try.results21, go_sem, r0, r1, r2, s0, s1, s2, s3]) rfl (RetSync.mk IsLog.zero IsDisk.zero ?_ HS.out)
          refine Below.setCell (Below.setCell (Below.setCell (Below.setCell (Below.setCell (Below.setCell (Below.setCell HF.out ?_ _) ?_ _) ?_ _) ?_ _) ?_ _) ?_ _) ?_ _ <;> (simp; try omega)
    · have hok' : okB d = false := by simpa using hok
      rw [chk_not hok']
      have HS := Lib.hid (show syncL l d = (zeroL, zeroD, 340) by simp [syncL, hlok, hok'])
      clear hlok hok hok'
      go_wp2_with fail
      refine bodyPost_ret (v := .tuple #[.agg #[.int .i64 0, .slice none 0 0, .int .i64 0], .agg #[.slice none 0 0, .slice none 0 0, .int .i64 0, .bool false], .int .i64 340]) (by simp [results, Try.results21, go_sem, r0, r1, r2, s0, s1, s2, s3]) rfl (RetSync.mk IsLog.zero IsDisk.zero ?_ HS.out)
      refine Below.setCell (Below.setCell (Below.setCell (Below.setCell (Below.setCell (Below.setCell (Below.setCell HF.out ?_ _) ?_ _) ?_ _) ?_ _) ?_ _) ?_ _) ?_ _ <;> (simp; try omega)
  · have hlk : okL l = false := by simpa using hlok
    have hck : chkL l = 1 := by simp [chkL, hlk]
    rw [hck]
    have HS := Lib.hid (show syncL l d = (zeroL, zeroD, 1) by simp [syncL, hlk])
    clear hlok hlk hck
    go_wp2_with fail
    refine bodyPost_ret (v := .tuple #[.agg #[.int .i64 0, .slice none 0 0, .int .i64 0], .agg #[.slice none 0 0, .slice none 0 0, .int .i64 0, .bool false], .int .i64 1]) (by simp [results, Try.results21, go_sem, r0, r1, r2, s0, s1, s2, s3]) rfl (RetSync.mk IsLog.zero IsDisk.zero ?_ HS.out)
    refine Below.setCell (Below.setCell (Below.setCell (Below.setCell (Below.setCell (Below.setCell (Below.setCell HF.out ?_ _) ?_ _) ?_ _) ?_ _) ?_ _) ?_ _) ?_ _ <;> (simp; try omega)
end Go.Proofs.Ytocjhepiooljpaa
