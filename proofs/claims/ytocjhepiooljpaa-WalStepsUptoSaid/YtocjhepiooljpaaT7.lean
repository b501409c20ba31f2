import Derived.Test.YtocjhepiooljpaaZt
import Derived.Deep.RegionHeld3
namespace Go.Proofs.Ytocjhepiooljpaa
open Go.RowKit Go.Shelf

/-- every cell that isn't in block g is as it was -/
def Off (g : Nat) (w w' : World) : Prop := ∀ p : Addr, p.block ≠ g → w'.cell? p = w.cell? p
theorem Off.refl (g : Nat) (w : World) : Off g w w := fun _ _ => rfl
theorem Off.setCell {g : Nat} {w w' : World} (h : Off g w w') (j : Nat) (u : Value) : Off g w (w'.setCell ⟨g, j, none⟩ u) := fun p hp =>
  (World.cell?_setCell_other w' ⟨g, j, none⟩ p u (fun e => hp (by rw [← e]))).trans (h p hp)
theorem Blk_set {w : World} {g j : Nat} {t : TypeId} {cs : Array Value} (h : w.heap[g]? = some (.cells cs t (0, 0))) (u : Value) : (w.setCell ⟨g, j, none⟩ u).heap[g]? = some (.cells (cs.setIfInBounds j u) t (0, 0)) := by
  simp [World.setCell, Array.getElem?_modify, h]
theorem set4 {w : World} {g : Nat} {t : TypeId} {a b c d : Value} (h : w.heap[g]? = some (.cells #[a, b, c, d] t (0, 0))) (a' b' c' d' : Value) :
    ((((w.setCell ⟨g, 0, none⟩ a').setCell ⟨g, 1, none⟩ b').setCell ⟨g, 2, none⟩ c').setCell ⟨g, 3, none⟩ d').heap[g]? = some (.cells #[a', b', c', d'] t (0, 0)) := by
  have := Blk_set (Blk_set (Blk_set (Blk_set h (j := 0) a') (j := 1) b') (j := 2) c') (j := 3) d'
  rw [this]; rfl
theorem size_set (w : World) (p : Addr) (u : Value) : (w.setCell p u).heap.size = w.heap.size := by simp [World.setCell]
theorem syncD_end {w w1 w2 w' : World} {M : Nat → Prop} {d : DiskD} {A2 : Option Addr} {n2 g : Nat} {ss : List (List UInt8)} {l n : Int} {b : Bool} (hn1 : ss.length ≤ n2) (hn2 : n2 ≤ 9223372036854775807)
    (hn3 : MatC w2 (fun b => (M b ∧ b < w.heap.size) ∨ w1.heap.size ≤ b) A2 ss) (ho : Off g w2 w') (hg : w.heap.size ≤ g) (hg1 : g < w1.heap.size) (hb : Below w.heap.size w w') (hr : syncD d = (⟨ss, [], l, b⟩, n)) (_hw : w.heap.size ≤ w1.heap.size) :
    RetDiskE w (New M w) (syncD d) (.returned (.tuple #[.agg #[.slice A2 ss.length n2, .slice none 0 0, .int .i64 l, .bool b], .int .i64 n])) w' := by
  refine RetDiskE.mk' (d := ⟨ss, [], l, b⟩) ⟨_, _, rfl, ⟨A2, n2, rfl, hn1, hn2, ?_⟩, IsWrs.nil⟩ hb hr
  have h1 := hn3.keep (w' := w') (fun p hp _ => ho p (by rcases hp with ⟨_, hp⟩ | hp <;> omega))
  exact h1.mono fun b _ h => by rcases h with ⟨h, _⟩ | h; exact .inl h; exact .inr (by omega)

set_option maxHeartbeats 800000 in
theorem sync_stops (w : World) (M : Nat → Prop) (d : DiskD) (v : Value) (h : IsDisk w M v d) (hr : runsB d = true) (hx : 0 ≤ d.left ∧ d.left < d.pending.length) :
    Calls Try.prog 27 #[v] w (RetDiskE w (New M w) (syncD d)) := by
  replace h := h.mono (M' := fun b => M b ∧ b < w.heap.size) (fun b hb hM => ⟨hM, hb⟩)
  obtain ⟨sA, sc, pA, pc, rfl, hs1, hs2, hs3, hp1, hp2, hp3⟩ := h.parts
  obtain ⟨W1, hW1⟩ : ∃ W1, W1 = (w.alloc (.cells #[.slice sA d.sectors.length sc, .slice pA d.pending.length pc, .int .i64 d.left, .bool d.stopped] 25)).alloc (.cells #[.slice none 0 0, .slice none 0 0, .int .i64 0, .bool false] 25) := ⟨_, rfl⟩
  have hB1 : Below w.heap.size w W1 := by rw [hW1]; exact ((Below.refl w.heap.size w).alloc (Nat.le_refl _) _).alloc (by simp) _
  have hz : W1.heap.size = w.heap.size + 2 := by rw [hW1]; simp
  have k0 : W1.heap[w.heap.size]? = some (.cells #[.slice sA d.sectors.length sc, .slice pA d.pending.length pc, .int .i64 d.left, .bool d.stopped] 25 (0, 0)) := by rw [hW1]; exact heap2_0 _ _ _
  have k1 : W1.heap[w.heap.size + 1]? = some (.cells #[.slice none 0 0, .slice none 0 0, .int .i64 0, .bool false] 25 (0, 0)) := by rw [hW1]; exact heap2_1 _ _ _
  have C := Lib.hid (runs_any W1 _ d _ (h.below hB1))
  have HW := Lib.hid hW1
  have HB := Lib.hid hB1
  have HZ := Lib.hid hz
  have HK0 := Lib.hid k0
  have HK1 := Lib.hid k1
  clear hB1 h hz k0 k1
  go_enter Try.func27, Try.ntmps27
  go_wp2_with fail
  rw [← HW.out]
  refine C.out.mono ?_
  rintro e w1 ⟨rfl, hb1⟩
  have kb := (hb1.block w.heap.size (by rw [HZ.out]; omega)).trans HK0.out
  have kr := (hb1.block (w.heap.size + 1) (by rw [HZ.out]; omega)).trans HK1.out
  have KB := Lib.hid kb
  have KR := Lib.hid kr
  clear kb kr
  obtain ⟨⟨c0, c1, c2, c3⟩, ⟨f0, f1, f2, f3⟩⟩ := blk4 (Below.refl _ _) KB.out (Nat.lt_succ_self _)
  obtain ⟨⟨r0, r1, r2, r3⟩, ⟨q0, q1, q2, q3⟩⟩ := blk4 (Below.refl _ _) KR.out (Nat.lt_succ_self _)
  have hsz := hb1.size
  rw [HZ.out] at hsz
  have HF := Lib.hid (HB.out.trans (hb1.mono HB.out.size))
  clear hb1
  have hm1 := hs3.keep (fun _ _ hp => HF.out.cell hp)
  have hq1 := hp3.keep (fun _ _ hp => HF.out.cell hp)
  obtain ⟨hst, g1, g2, g3, g4, g5, g6⟩ := runs_parts hr
  have HG6 := Lib.hid g6
  rw [hr]
  clear g6 hst
  have HS := Lib.hid (show syncD d = (⟨performD d.sectors (d.pending.take d.left.toNat), [], 0, true⟩, 340) by simp only [syncD, hr, if_true, if_pos hx])
  obtain ⟨hx1, hx2⟩ := hx
  obtain ⟨L, hL⟩ : ∃ L : Nat, d.left = (L : Int) := ⟨d.left.toNat, by omega⟩
  have hLt : (d.pending.take L).length = L := by rw [List.length_take]; omega
  have P := fun (W : World) (h1 : MatC W (fun b => M b ∧ b < w.heap.size) sA d.sectors) (h2 : WrsC W (fun b => M b ∧ b < w.heap.size) pA d.pending) => perform_any W _ sA pA sc L d.sectors (d.pending.take L) g2 hs1 h1 (by omega) (h2.take L) (fun j hj => by
    have hj' : j < d.pending.length := by rw [hLt] at hj; omega
    have := HG6.out j hj'
    simpa [List.getElem_take] using this)
  rw [hLt] at P
  rw [hL] at c2 hx1 hx2
  rw [hL, Int.toNat_natCast] at HS
  have HP := Lib.hid P
  have HL := Lib.hid hL
  clear P hr hL hLt g4 g5
  go_wp2_with fail
  refine (HP.out _ (by exact hm1) (by exact hq1)).mono ?_
  rintro e w2 ⟨v2, rfl, ⟨A2, n2, rfl, hn1, hn2, hn3⟩, hb2⟩
  obtain ⟨⟨s0, s1, s2, s3⟩, ⟨t0, t1, t2, t3⟩⟩ := blk4 hb2 KR.out (by omega)
  have hz2 := hb2.size
  have HX2 := Lib.hid (HF.out.trans (hb2.mono (by omega)))
  have HN3 := Lib.hid hn3
  clear hb2 hn3
  go_wp2_with fail
  exact bodyPost_ret (v := .tuple #[.agg #[.slice A2 (performD d.sectors (d.pending.take L)).length n2, .slice none 0 0, .int .i64 0, .bool true], .int .i64 340]) (by simp [results, Try.results27, go_sem, s0, s1, s2, s3]) rfl
    (syncD_end (w1 := w1) (w2 := w2) (g := w.heap.size + 1) hn1 hn2 HN3.out (by repeat (first | refine Off.setCell ?_ _ _ | exact Off.refl _ _)) (by omega) (by omega) (by repeat (first | refine Below.setCell ?_ (by simp) _ | exact HX2.out)) HS.out (by omega))

set_option maxHeartbeats 800000 in
theorem sync_free (w : World) (M : Nat → Prop) (d : DiskD) (v : Value) (h : IsDisk w M v d) (hr : runsB d = true) (hx : d.left < 0) :
    Calls Try.prog 27 #[v] w (RetDiskE w (New M w) (syncD d)) := by
  replace h := h.mono (M' := fun b => M b ∧ b < w.heap.size) (fun b hb hM => ⟨hM, hb⟩)
  obtain ⟨sA, sc, pA, pc, rfl, hs1, hs2, hs3, hp1, hp2, hp3⟩ := h.parts
  obtain ⟨W1, hW1⟩ : ∃ W1, W1 = (w.alloc (.cells #[.slice sA d.sectors.length sc, .slice pA d.pending.length pc, .int .i64 d.left, .bool d.stopped] 25)).alloc (.cells #[.slice none 0 0, .slice none 0 0, .int .i64 0, .bool false] 25) := ⟨_, rfl⟩
  have hB1 : Below w.heap.size w W1 := by rw [hW1]; exact ((Below.refl w.heap.size w).alloc (Nat.le_refl _) _).alloc (by simp) _
  have hz : W1.heap.size = w.heap.size + 2 := by rw [hW1]; simp
  have k0 : W1.heap[w.heap.size]? = some (.cells #[.slice sA d.sectors.length sc, .slice pA d.pending.length pc, .int .i64 d.left, .bool d.stopped] 25 (0, 0)) := by rw [hW1]; exact heap2_0 _ _ _
  have k1 : W1.heap[w.heap.size + 1]? = some (.cells #[.slice none 0 0, .slice none 0 0, .int .i64 0, .bool false] 25 (0, 0)) := by rw [hW1]; exact heap2_1 _ _ _
  have C := Lib.hid (runs_any W1 _ d _ (h.below hB1))
  have HW := Lib.hid hW1
  have HB := Lib.hid hB1
  have HZ := Lib.hid hz
  have HK0 := Lib.hid k0
  have HK1 := Lib.hid k1
  clear hB1 h hz k0 k1
  go_enter Try.func27, Try.ntmps27
  go_wp2_with fail
  rw [← HW.out]
  refine C.out.mono ?_
  rintro e w1 ⟨rfl, hb1⟩
  have kb := (hb1.block w.heap.size (by rw [HZ.out]; omega)).trans HK0.out
  have kr := (hb1.block (w.heap.size + 1) (by rw [HZ.out]; omega)).trans HK1.out
  have KB := Lib.hid kb
  have KR := Lib.hid kr
  clear kb kr
  obtain ⟨⟨c0, c1, c2, c3⟩, ⟨f0, f1, f2, f3⟩⟩ := blk4 (Below.refl _ _) KB.out (Nat.lt_succ_self _)
  obtain ⟨⟨r0, r1, r2, r3⟩, ⟨q0, q1, q2, q3⟩⟩ := blk4 (Below.refl _ _) KR.out (Nat.lt_succ_self _)
  have hsz := hb1.size
  rw [HZ.out] at hsz
  have HF := Lib.hid (HB.out.trans (hb1.mono HB.out.size))
  clear hb1
  have hm1 := hs3.keep (fun _ _ hp => HF.out.cell hp)
  have hq1 := hp3.keep (fun _ _ hp => HF.out.cell hp)
  obtain ⟨hst, g1, g2, g3, g4, g5, g6⟩ := runs_parts hr
  have HG6 := Lib.hid g6
  rw [hr]
  clear g6 hst
  have P := fun (W : World) (h1 : MatC W (fun b => M b ∧ b < w.heap.size) sA d.sectors) (h2 : WrsC W (fun b => M b ∧ b < w.heap.size) pA d.pending) => perform_any W _ sA pA sc pc d.sectors d.pending g2 hs1 h1 (by omega) h2 HG6.out
  have HP := Lib.hid P
  clear P
  have HS := Lib.hid (show syncD d = (⟨performD d.sectors d.pending, [], d.left, false⟩, 0) by simp only [syncD, hr, if_true, if_neg (show ¬ (0 ≤ d.left ∧ d.left < d.pending.length) by omega)]; rw [if_neg (by omega)])
  clear hr
  go_wp2_with fail
  go_region_held3 (fun w' => w'.cell? ⟨w.heap.size, 0, none⟩ = some (.slice sA d.sectors.length sc) ∧ w'.cell? ⟨w.heap.size, 1, none⟩ = some (.slice pA d.pending.length pc) ∧ w'.cell? ⟨w.heap.size, 2, none⟩ = some (.int .i64 d.left))
    (first
      | go_keep
      | (go_split_ands
         refine ⟨?_, ?_, ?_⟩
         all_goals (rw [hb2.cell (by simp; omega)]; assumption)))
    ((go_at_call 54; refine (HP.out _ (by exact hm1) (by exact hq1)).mono ?_; rintro e w2 ⟨v2, rfl, ⟨A2, n2, rfl, hn1, hn2, hn3⟩, hb2⟩; obtain ⟨⟨s0, s1, s2, s3⟩, ⟨t0, t1, t2, t3⟩⟩ := blk4 hb2 (by exact KR.out) (by simp; omega); have hz2 := hb2.size; simp at hz2; have KR2 := Lib.hid ((hb2.block (w.heap.size + 1) (by simp; omega)).trans KR.out)))
  have HX2 := Lib.hid (HF.out.drew.trans (hb2.mono (by simp; omega)))
  have HN3 := Lib.hid hn3
  clear hb2 hn3
  obtain ⟨w3, hw3⟩ : ∃ w3, w3 = (((w2.setCell ⟨w.heap.size + 1, 0, none⟩ (.slice A2 (performD d.sectors d.pending).length n2)).setCell ⟨w.heap.size + 1, 1, none⟩ (.slice none 0 0)).setCell ⟨w.heap.size + 1, 2, none⟩ (.int .i64 d.left)).setCell ⟨w.heap.size + 1, 3, none⟩ (.bool false) := ⟨_, rfl⟩
  rw [← hw3]
  have k3 := set4 KR2.out (.slice A2 (performD d.sectors d.pending).length n2) (.slice none 0 0) (.int .i64 d.left) (.bool false)
  rw [← hw3] at k3
  clear s0 s1 s2 s3 t0 t1 t2 t3
  obtain ⟨⟨s0, s1, s2, s3⟩, ⟨t0, t1, t2, t3⟩⟩ := blk4 (Below.refl _ w3) k3 (Nat.lt_succ_self _)
  have HO3 : Hid (Off (w.heap.size + 1) w2 w3) := by rw [hw3]; exact ((((Off.refl _ _).setCell _ _).setCell _ _).setCell _ _).setCell _ _
  have HX3 : Hid (Below w.heap.size w w3) := by rw [hw3]; refine Below.setCell (Below.setCell (Below.setCell (Below.setCell HX2.out ?_ _) ?_ _) ?_ _) ?_ _ <;> simp
  have hz3 : w.heap.size + 2 ≤ w3.heap.size := by rw [hw3]; simp only [size_set]; omega
  clear hw3 k3 c0 c1 c2 c3 f0 f1 f2 f3 r0 r1 r2 r3 q0 q1 q2 q3
  go_wp2_with fail
  exact bodyPost_ret (v := .tuple #[.agg #[.slice A2 (performD d.sectors d.pending).length n2, .slice none 0 0, .int .i64 d.left, .bool false], .int .i64 0]) (by simp [results, Try.results27, go_sem, s0, s1, s2, s3]) rfl
    (syncD_end (w1 := w1) (w2 := w2) (g := w.heap.size + 1) hn1 hn2 HN3.out (by repeat (first | refine Off.setCell ?_ _ _ | exact HO3.out)) (by omega) (by omega) (by repeat (first | refine Below.setCell ?_ (by simp) _ | exact HX3.out)) HS.out (by omega))

set_option maxHeartbeats 800000 in
theorem sync_room (w : World) (M : Nat → Prop) (d : DiskD) (v : Value) (h : IsDisk w M v d) (hr : runsB d = true) (hx1 : 0 ≤ d.left) (hx : d.pending.length ≤ d.left) :
    Calls Try.prog 27 #[v] w (RetDiskE w (New M w) (syncD d)) := by
  replace h := h.mono (M' := fun b => M b ∧ b < w.heap.size) (fun b hb hM => ⟨hM, hb⟩)
  obtain ⟨sA, sc, pA, pc, rfl, hs1, hs2, hs3, hp1, hp2, hp3⟩ := h.parts
  obtain ⟨W1, hW1⟩ : ∃ W1, W1 = (w.alloc (.cells #[.slice sA d.sectors.length sc, .slice pA d.pending.length pc, .int .i64 d.left, .bool d.stopped] 25)).alloc (.cells #[.slice none 0 0, .slice none 0 0, .int .i64 0, .bool false] 25) := ⟨_, rfl⟩
  have hB1 : Below w.heap.size w W1 := by rw [hW1]; exact ((Below.refl w.heap.size w).alloc (Nat.le_refl _) _).alloc (by simp) _
  have hz : W1.heap.size = w.heap.size + 2 := by rw [hW1]; simp
  have k0 : W1.heap[w.heap.size]? = some (.cells #[.slice sA d.sectors.length sc, .slice pA d.pending.length pc, .int .i64 d.left, .bool d.stopped] 25 (0, 0)) := by rw [hW1]; exact heap2_0 _ _ _
  have k1 : W1.heap[w.heap.size + 1]? = some (.cells #[.slice none 0 0, .slice none 0 0, .int .i64 0, .bool false] 25 (0, 0)) := by rw [hW1]; exact heap2_1 _ _ _
  have C := Lib.hid (runs_any W1 _ d _ (h.below hB1))
  have HW := Lib.hid hW1
  have HB := Lib.hid hB1
  have HZ := Lib.hid hz
  have HK0 := Lib.hid k0
  have HK1 := Lib.hid k1
  clear hB1 h hz k0 k1
  go_enter Try.func27, Try.ntmps27
  go_wp2_with fail
  rw [← HW.out]
  refine C.out.mono ?_
  rintro e w1 ⟨rfl, hb1⟩
  have kb := (hb1.block w.heap.size (by rw [HZ.out]; omega)).trans HK0.out
  have kr := (hb1.block (w.heap.size + 1) (by rw [HZ.out]; omega)).trans HK1.out
  have KB := Lib.hid kb
  have KR := Lib.hid kr
  clear kb kr
  obtain ⟨⟨c0, c1, c2, c3⟩, ⟨f0, f1, f2, f3⟩⟩ := blk4 (Below.refl _ _) KB.out (Nat.lt_succ_self _)
  obtain ⟨⟨r0, r1, r2, r3⟩, ⟨q0, q1, q2, q3⟩⟩ := blk4 (Below.refl _ _) KR.out (Nat.lt_succ_self _)
  have hsz := hb1.size
  rw [HZ.out] at hsz
  have HF := Lib.hid (HB.out.trans (hb1.mono HB.out.size))
  clear hb1
  have hm1 := hs3.keep (fun _ _ hp => HF.out.cell hp)
  have hq1 := hp3.keep (fun _ _ hp => HF.out.cell hp)
  obtain ⟨hst, g1, g2, g3, g4, g5, g6⟩ := runs_parts hr
  have HG6 := Lib.hid g6
  rw [hr]
  clear g6 hst
  have P := fun (W : World) (h1 : MatC W (fun b => M b ∧ b < w.heap.size) sA d.sectors) (h2 : WrsC W (fun b => M b ∧ b < w.heap.size) pA d.pending) => perform_any W _ sA pA sc pc d.sectors d.pending g2 hs1 h1 (by omega) h2 HG6.out
  have HP := Lib.hid P
  clear P
  have HS := Lib.hid (show syncD d = (⟨performD d.sectors d.pending, [], d.left - d.pending.length, false⟩, 0) by simp only [syncD, hr, if_true, if_neg (show ¬ (0 ≤ d.left ∧ d.left < d.pending.length) by omega)]; rw [if_pos (by omega)])
  clear hr
  go_wp2_with fail
  go_region_held3 (fun w' => w'.cell? ⟨w.heap.size, 0, none⟩ = some (.slice sA d.sectors.length sc) ∧ w'.cell? ⟨w.heap.size, 1, none⟩ = some (.slice pA d.pending.length pc) ∧ w'.cell? ⟨w.heap.size, 2, none⟩ = some (.int .i64 d.left))
    (first
      | go_keep
      | (go_split_ands
         refine ⟨?_, ?_, ?_⟩
         all_goals (rw [hb2.cell (by simp; omega)]; assumption)))
    ((go_at_call 54; refine (HP.out _ (by exact hm1) (by exact hq1)).mono ?_; rintro e w2 ⟨v2, rfl, ⟨A2, n2, rfl, hn1, hn2, hn3⟩, hb2⟩; obtain ⟨⟨s0, s1, s2, s3⟩, ⟨t0, t1, t2, t3⟩⟩ := blk4 hb2 (by exact KR.out) (by simp; omega); have hz2 := hb2.size; simp at hz2; have KR2 := Lib.hid ((hb2.block (w.heap.size + 1) (by simp; omega)).trans KR.out)))
  have HX2 := Lib.hid (HF.out.drew.trans (hb2.mono (by simp; omega)))
  have HN3 := Lib.hid hn3
  clear hb2 hn3
  obtain ⟨w3, hw3⟩ : ∃ w3, w3 = (((w2.setCell ⟨w.heap.size + 1, 0, none⟩ (.slice A2 (performD d.sectors d.pending).length n2)).setCell ⟨w.heap.size + 1, 1, none⟩ (.slice none 0 0)).setCell ⟨w.heap.size + 1, 2, none⟩ (.int .i64 d.left)).setCell ⟨w.heap.size + 1, 3, none⟩ (.bool false) := ⟨_, rfl⟩
  rw [← hw3]
  have k3 := set4 KR2.out (.slice A2 (performD d.sectors d.pending).length n2) (.slice none 0 0) (.int .i64 d.left) (.bool false)
  rw [← hw3] at k3
  clear s0 s1 s2 s3 t0 t1 t2 t3
  obtain ⟨⟨s0, s1, s2, s3⟩, ⟨t0, t1, t2, t3⟩⟩ := blk4 (Below.refl _ w3) k3 (Nat.lt_succ_self _)
  have HO3 : Hid (Off (w.heap.size + 1) w2 w3) := by rw [hw3]; exact ((((Off.refl _ _).setCell _ _).setCell _ _).setCell _ _).setCell _ _
  have HX3 : Hid (Below w.heap.size w w3) := by rw [hw3]; refine Below.setCell (Below.setCell (Below.setCell (Below.setCell HX2.out ?_ _) ?_ _) ?_ _) ?_ _ <;> simp
  have hz3 : w.heap.size + 2 ≤ w3.heap.size := by rw [hw3]; simp only [size_set]; omega
  clear hw3 k3 c0 c1 c2 c3 f0 f1 f2 f3 r0 r1 r2 r3 q0 q1 q2 q3
  go_wp2_with fail
  exact bodyPost_ret (v := .tuple #[.agg #[.slice A2 (performD d.sectors d.pending).length n2, .slice none 0 0, .int .i64 (d.left - d.pending.length), .bool false], .int .i64 0]) (by simp [results, Try.results27, go_sem, s0, s1, s2, s3]) rfl
    (syncD_end (w1 := w1) (w2 := w2) (g := w.heap.size + 1) hn1 hn2 HN3.out (by repeat (first | refine Off.setCell ?_ _ _ | exact HO3.out)) (by omega) (by omega) (by repeat (first | refine Below.setCell ?_ (by simp) _ | exact HX3.out)) HS.out (by omega))

set_option maxHeartbeats 800000 in
theorem sync_no (w : World) (M : Nat → Prop) (d : DiskD) (v : Value) (h : IsDisk w M v d) (hr' : runsB d = false) :
    Calls Try.prog 27 #[v] w (RetDiskE w (New M w) (syncD d)) := by
  replace h := h.mono (M' := fun b => M b ∧ b < w.heap.size) (fun b hb hM => ⟨hM, hb⟩)
  obtain ⟨sA, sc, pA, pc, rfl, hs1, hs2, hs3, hp1, hp2, hp3⟩ := h.parts
  obtain ⟨W1, hW1⟩ : ∃ W1, W1 = (w.alloc (.cells #[.slice sA d.sectors.length sc, .slice pA d.pending.length pc, .int .i64 d.left, .bool d.stopped] 25)).alloc (.cells #[.slice none 0 0, .slice none 0 0, .int .i64 0, .bool false] 25) := ⟨_, rfl⟩
  have hB1 : Below w.heap.size w W1 := by rw [hW1]; exact ((Below.refl w.heap.size w).alloc (Nat.le_refl _) _).alloc (by simp) _
  have hz : W1.heap.size = w.heap.size + 2 := by rw [hW1]; simp
  have k0 : W1.heap[w.heap.size]? = some (.cells #[.slice sA d.sectors.length sc, .slice pA d.pending.length pc, .int .i64 d.left, .bool d.stopped] 25 (0, 0)) := by rw [hW1]; exact heap2_0 _ _ _
  have k1 : W1.heap[w.heap.size + 1]? = some (.cells #[.slice none 0 0, .slice none 0 0, .int .i64 0, .bool false] 25 (0, 0)) := by rw [hW1]; exact heap2_1 _ _ _
  have C := Lib.hid (runs_any W1 _ d _ (h.below hB1))
  have HW := Lib.hid hW1
  have HB := Lib.hid hB1
  have HZ := Lib.hid hz
  have HK0 := Lib.hid k0
  have HK1 := Lib.hid k1
  clear hB1 h hz k0 k1
  go_enter Try.func27, Try.ntmps27
  go_wp2_with fail
  rw [← HW.out]
  refine C.out.mono ?_
  rintro e w1 ⟨rfl, hb1⟩
  have kb := (hb1.block w.heap.size (by rw [HZ.out]; omega)).trans HK0.out
  have kr := (hb1.block (w.heap.size + 1) (by rw [HZ.out]; omega)).trans HK1.out
  have KB := Lib.hid kb
  have KR := Lib.hid kr
  clear kb kr
  obtain ⟨⟨c0, c1, c2, c3⟩, ⟨f0, f1, f2, f3⟩⟩ := blk4 (Below.refl _ _) KB.out (Nat.lt_succ_self _)
  obtain ⟨⟨r0, r1, r2, r3⟩, ⟨q0, q1, q2, q3⟩⟩ := blk4 (Below.refl _ _) KR.out (Nat.lt_succ_self _)
  have hsz := hb1.size
  rw [HZ.out] at hsz
  have HF := Lib.hid (HB.out.trans (hb1.mono HB.out.size))
  clear hb1
  have hm1 := hs3.keep (fun _ _ hp => HF.out.cell hp)
  have hq1 := hp3.keep (fun _ _ hp => HF.out.cell hp)
  rw [hr']
  have HS := Lib.hid (show syncD d = (zeroD, 340) by simp [syncD, hr'])
  clear hr'
  go_wp2_with fail
  refine bodyPost_ret (v := .tuple #[.agg #[.slice none 0 0, .slice none 0 0, .int .i64 0, .bool false], .int .i64 340]) (by simp [results, Try.results27, go_sem, r0, r1, r2, r3]) rfl (RetDiskE.mk IsDisk.zero ?_ HS.out)
  refine Below.setCell (Below.setCell (Below.setCell (Below.setCell HF.out ?_ _) ?_ _) ?_ _) ?_ _ <;> simp

theorem sync_any (w : World) (M : Nat → Prop) (d : DiskD) (v : Value) (h : IsDisk w M v d) : Calls Try.prog 27 #[v] w (RetDiskE w (New M w) (syncD d)) := by
  by_cases hr : runsB d = true
  · by_cases hx : 0 ≤ d.left ∧ d.left < d.pending.length
    · exact sync_stops w M d v h hr hx
    · by_cases h0 : d.left < 0
      · exact sync_free w M d v h hr h0
      · exact sync_room w M d v h hr (by omega) (by omega)
  · exact sync_no w M d v h (by simpa using hr)
end Go.Proofs.Ytocjhepiooljpaa
