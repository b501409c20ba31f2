/- Open of the reference. -/
import Derived.Test.YtocjhepiooljpaaA11
namespace Go.Proofs.Ytocjhepiooljpaa
open Go.RowKit Go.Deep Go.Shelf

/-- what Open answers -/
def openL (d : DiskD) : LogD × Int := if okB d then (if d.stopped then (zeroL, 340) else if d.pending ≠ [] then (zeroL, 1) else (⟨d.sectors.length, recs d.sectors, (recs d.sectors).length⟩, 0)) else (zeroL, 340)
def RetLogE (M : Nat → Prop) (w : World) (r : LogD × Int) (e : Ending) (w' : World) : Prop := ∃ v, e = .returned (.tuple #[v, .int .i64 r.2]) ∧ IsLog w' M v r.1 ∧ Below w.heap.size w w'
theorem RetLogE.mk {w w' : World} {M : Nat → Prop} {v : Value} {r : LogD × Int} {l : LogD} {n : Int} (hd : IsLog w' M v l) (hb : Below w.heap.size w w') (hr : r = (l, n)) : RetLogE M w r (.returned (.tuple #[v, .int .i64 n])) w' := by
  subst hr; exact ⟨v, rfl, hd, hb⟩
theorem blk3 {W w1 : World} {B g : Nat} {a b c : Value} {t : TypeId} (hb : Below B W w1) (hW : W.heap[g]? = some (.cells #[a, b, c] t (0, 0))) (hg : g < B) :
    (w1.cell? ⟨g, 0, none⟩ = some a ∧ w1.cell? ⟨g, 1, none⟩ = some b ∧ w1.cell? ⟨g, 2, none⟩ = some c) ∧
    (w1.frozen? ⟨g, 0, none⟩ = false ∧ w1.frozen? ⟨g, 1, none⟩ = false ∧ w1.frozen? ⟨g, 2, none⟩ = false) := by
  have h1 := (hb.block g hg).trans hW
  exact ⟨⟨cell_of h1 rfl, cell_of h1 rfl, cell_of h1 rfl⟩, by simp [World.frozen?, h1], by simp [World.frozen?, h1], by simp [World.frozen?, h1]⟩
theorem okB_sized {d : DiskD} (h : okB d = true) : d.sectors.length ≤ 4096 ∧ Sized128 d.sectors := by
  unfold okB headOk at h
  simp only [Bool.and_eq_true, decide_eq_true_eq, List.all_eq_true, secOk] at h
  exact ⟨h.1.1.1.1.1.2, h.1.2⟩
theorem recs_len {l : List (List UInt8)} (hs : Sized128 l) : (recs l).length ≤ l.length := by
  obtain ⟨-, -, h, -⟩ := recs_split hs
  have : ∀ rs : List (List UInt8), rs.length ≤ used rs := fun rs => by
    induction rs with
    | nil => exact Nat.le_refl _
    | cons b r ih => rw [used_cons, List.length_cons]; have := secs_pos b.length; omega
  exact Nat.le_trans (this _) h

set_option maxRecDepth 20000 in
set_option maxHeartbeats 4000000 in
theorem refOpen_any (w : World) (M : Nat → Prop) (d : DiskD) (v : Value) (h : IsDisk w M v d) : Calls Try.prog 13 #[v] w (RetLogE (fun b => w.heap.size ≤ b) w (openL d)) := by
  obtain ⟨sA, sc, pA, pc, rfl, hs1, hs2, hs3, hp1, hp2, hp3⟩ := h.parts
  obtain ⟨W1, hW1⟩ : ∃ W1, W1 = (w.alloc (.cells #[.slice sA d.sectors.length sc, .slice pA d.pending.length pc, .int .i64 d.left, .bool d.stopped] 25)).alloc (.cells #[.int .i64 0, .slice none 0 0, .int .i64 0] 29) := ⟨_, rfl⟩
  have hB1 : Below w.heap.size w W1 := by rw [hW1]; exact ((Below.refl w.heap.size w).alloc (Nat.le_refl _) _).alloc (by simp) _
  have hz : W1.heap.size = w.heap.size + 2 := by rw [hW1]; simp
  have k0 : W1.heap[w.heap.size]? = some (.cells #[.slice sA d.sectors.length sc, .slice pA d.pending.length pc, .int .i64 d.left, .bool d.stopped] 25 (0, 0)) := by rw [hW1]; exact heap2_0 _ _ _
  have k1 : W1.heap[w.heap.size + 1]? = some (.cells #[.int .i64 0, .slice none 0 0, .int .i64 0] 29 (0, 0)) := by rw [hW1]; exact heap2_1 _ _ _
  have C := Lib.hid (refCheck_any W1 M d _ (h.below hB1))
  have HSM := Lib.hid hs3
  have HW := Lib.hid hW1
  have HB := Lib.hid hB1
  have HZ := Lib.hid hz
  have HK0 := Lib.hid k0
  have HK1 := Lib.hid k1
  clear hB1 h hz k0 k1 hs3 hp3
  go_enter Try.func13, Try.ntmps13
  go_wp2_with fail
  rw [← HW.out]
  clear hW1
  refine C.out.mono ?_
  rintro e w1 ⟨rfl, hb1⟩
  obtain ⟨⟨c0, c1, c2, c3⟩, ⟨f0, f1, f2, f3⟩⟩ := blk4 hb1 HK0.out (by rw [HZ.out]; omega)
  obtain ⟨⟨r0, r1, r2⟩, ⟨q0, q1, q2⟩⟩ := blk3 hb1 HK1.out (by rw [HZ.out]; omega)
  have hsz := hb1.size
  rw [HZ.out] at hsz
  have HF := Lib.hid (HB.out.trans (hb1.mono HB.out.size))
  clear hb1 C
  by_cases hok : okB d = true
  · rw [chk_of hok]
    cases hst : d.stopped
    · rw [hst] at c3
      by_cases hp : d.pending = []
      · have hp0 : d.pending.length = 0 := by rw [hp]; rfl
        have HS := Lib.hid (show openL d = (⟨d.sectors.length, recs d.sectors, (recs d.sectors).length⟩, 0) by simp [openL, hok, hst, hp])
        rw [hp0] at c1
        obtain ⟨hl, hsz128⟩ := okB_sized hok
        have CR := Lib.hid (refRecords_any w1 M _ d.sectors hl hsz128 ⟨sA, sc, rfl, hs1, hs2, HSM.out.keep fun _ _ hq => HF.out.cell hq⟩)
        clear hok hst hp hp0
        go_wp2_with fail
        refine CR.out.mono ?_
        rintro e w2 ⟨⟨v2, rfl, hm2⟩, hb2⟩
        obtain ⟨rA, rc, rfl, e1, e2, e3⟩ := hm2
        have hk0 := (hb2.cell (p := ⟨w.heap.size, 0, none⟩) (by show w.heap.size < _; omega)).trans c0
        have hk1 := (hb2.cell (p := ⟨w.heap.size + 1, 0, none⟩) (by show w.heap.size + 1 < _; omega)).trans r0
        have hk2 := (hb2.cell (p := ⟨w.heap.size + 1, 1, none⟩) (by show w.heap.size + 1 < _; omega)).trans r1
        have hk3 := (hb2.cell (p := ⟨w.heap.size + 1, 2, none⟩) (by show w.heap.size + 1 < _; omega)).trans r2
        have hq0 : w2.frozen? ⟨w.heap.size + 1, 0, none⟩ = false := (World.frozen?_of_block (a := ⟨w.heap.size + 1, 0, none⟩) (hb2.block (w.heap.size + 1) (by omega))).trans q0
        have hq1 : w2.frozen? ⟨w.heap.size + 1, 1, none⟩ = false := (World.frozen?_of_block (a := ⟨w.heap.size + 1, 1, none⟩) (hb2.block (w.heap.size + 1) (by omega))).trans q1
        have hq2 : w2.frozen? ⟨w.heap.size + 1, 2, none⟩ = false := (World.frozen?_of_block (a := ⟨w.heap.size + 1, 2, none⟩) (hb2.block (w.heap.size + 1) (by omega))).trans q2
        have hsz2 := hb2.size
        have HF2 := Lib.hid (HF.out.trans (hb2.mono HF.out.size))
        have HM2 := Lib.hid e3
        clear c0 c1 c2 c3 f0 f1 f2 f3 r0 r1 r2 q0 q1 q2 hb2 e3 CR
        go_wp2_with fail
        refine bodyPost_ret (v := .tuple #[.agg #[.int .i64 d.sectors.length, .slice rA (recs d.sectors).length rc, .int .i64 (recs d.sectors).length], .int .i64 0]) (by simp [results, Try.results13, go_sem, hk1, hk2, hk3]) rfl (RetLogE.mk ⟨_, rfl, rA, rc, rfl, e1, e2, ?_⟩ ?_ HS.out)
        · exact (HM2.out.keep fun p hp _ => ((((Off.refl (w.heap.size + 1) w2).setCell 0 _).setCell 1 _).setCell 2 _) p (by omega)).mono (fun b _ hb => by omega)
        · refine Below.setCell (Below.setCell (Below.setCell HF2.out ?_ _) ?_ _) ?_ _ <;> simp
      · have hp0 : (0 : Int) < (d.pending.length : Int) := by have : d.pending.length ≠ 0 := fun e => hp (List.eq_nil_of_length_eq_zero e); omega
        have HS := Lib.hid (show openL d = (zeroL, 1) by simp [openL, hok, hst, hp])
        clear hok hst hp
        go_wp2_with fail
        refine bodyPost_ret (v := .tuple #[.agg #[.int .i64 0, .slice none 0 0, .int .i64 0], .int .i64 1]) (by simp [results, Try.results13, go_sem, r0, r1, r2]) rfl (RetLogE.mk IsLog.zero ?_ HS.out)
        refine Below.setCell (Below.setCell (Below.setCell HF.out ?_ _) ?_ _) ?_ _ <;> simp
    · rw [hst] at c3
      have HS := Lib.hid (show openL d = (zeroL, 340) by simp [openL, hok, hst])
      clear hok hst
      go_wp2_with fail
      refine bodyPost_ret (v := .tuple #[.agg #[.int .i64 0, .slice none 0 0, .int .i64 0], .int .i64 340]) (by simp [results, Try.results13, go_sem, r0, r1, r2]) rfl (RetLogE.mk IsLog.zero ?_ HS.out)
      refine Below.setCell (Below.setCell (Below.setCell HF.out ?_ _) ?_ _) ?_ _ <;> simp
  · have hok' : okB d = false := by simpa using hok
    rw [chk_not hok']
    have HS := Lib.hid (show openL d = (zeroL, 340) by simp [openL, hok'])
    clear hok hok'
    go_wp2_with fail
    refine bodyPost_ret (v := .tuple #[.agg #[.int .i64 0, .slice none 0 0, .int .i64 0], .int .i64 340]) (by simp [results, Try.results13, go_sem, r0, r1, r2]) rfl (RetLogE.mk IsLog.zero ?_ HS.out)
    refine Below.setCell (Below.setCell (Below.setCell HF.out ?_ _) ?_ _) ?_ _ <;> simp
end Go.Proofs.Ytocjhepiooljpaa
