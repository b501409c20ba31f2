import Derived.Test.YtocjhepiooljpaaT7
import Derived.Laws.CopyOwn
import Derived.ArgAppend
import Derived.Deep.OwnRows
namespace Go.Proofs.Ytocjhepiooljpaa
open Go.RowKit Go.Shelf Go.Deep

set_option maxHeartbeats 400000 in
theorem clip_any (w : World) (A : Option Addr) (n c : Nat) (hn : n ≤ c) (_hc : c ≤ 9223372036854775807) :
    Calls Try.prog 52 #[.slice A n c] w fun e w' => e = .returned (.slice A n n) ∧ w = w' := by
  go_enter Try.func52, Try.ntmps52
  go_wp2
  go_ret
  exact ⟨by simp, rfl⟩

def writeD (d : DiskD) (at_ : Int) (b : List UInt8) : DiskD × Int :=
  if runsB d && hasB d at_ then
    if b.length ≤ 128 then
      if d.pending.length = 4096 then (zeroD, 2) else (⟨d.sectors, d.pending ++ [⟨at_, b ++ List.replicate (128 - b.length) 0⟩], d.left, d.stopped⟩, 0)
    else (zeroD, 1)
  else (zeroD, 340)

/-- 128 zero bytes -/
def z128 : List Value := List.replicate 128 (.int .u8 0)
theorem make128 (w : World) : (Instr.makeSlice 35 (.int .i64 128) (.int .i64 128)).run Try.prog w = .ok (.slice (some ⟨w.heap.size, 0, none⟩) 128 128) (w.alloc (.cells z128.toArray 5)) := by
  have hi : (Try.prog.info? 5).map (fun i => (i.zero, i.size, i.bytes)) = some (some (.int .u8 0), 1, 1) := by kernel_rfl
  have := run_make_row' (P := Try.prog) 35 5 (.int .u8 0) 1 Try.underlying35 hi rfl .i64 .i64 128 (by omega) (by omega) w
  have e : madeCells #[Value.int .u8 0] 128 = z128.toArray := by kernel_rfl
  rw [e] at this
  exact this

theorem z128_length : z128.length = 128 := by simp [z128]
theorem own_cells2 {w : World} {base : Nat} {e : TypeId} {v : Value} {n : Nat} {xs : List Value} (h : w.ownsRow base e 2 v n xs) :
    ∃ A c, v = .slice A n c ∧ n ≤ c ∧ c ≤ 9223372036854775807 ∧ (A = none → n = 0 ∧ c = 0) ∧ Cells w (fun b => base ≤ b) 2 A n (fun i j => xs.getD (i * 2 + j) .nilIface) ∧ (∀ b, A = some b → ∀ j u, xs[j]? = some u → w.cell? (b.add j) = some u) := by
  have hl := h.1
  rcases h.2 with ⟨rfl, rfl⟩ | ⟨g, cap, cur, rfl, hg, hh, h1, h2, h3, h4⟩
  · exact ⟨none, 0, rfl, Nat.le_refl _, by omega, fun _ => ⟨rfl, rfl⟩, fun h => absurd h (by omega), (fun b e => by cases e)⟩
  · refine ⟨_, cap, rfl, h1, by simpa [maxLen] using h2, (fun e => by cases e), fun hn => ⟨g, 0, rfl, hg, fun i j hi hj => ?_⟩, fun b e j u hu => by injection e with e; subst e; exact h.cells rfl j u hu⟩
    have := h.cellAt (i * 2 + j) (by omega)
    rw [Nat.zero_add, this, List.getElem?_eq_getElem (by omega)]
    simp [List.getD_eq_getElem?_getD, (by omega : i * 2 + j < xs.length)]
theorem wrs_snoc {w' : World} {M' : Nat → Prop} {base : Nat} {e : TypeId} {v : Value} {ps : List Wr} {ws : Nat → Value} {x : Wr} {u : Value}
    (hown : w'.ownsRow base e 2 v (ps.length + 1) (flat 2 ps.length (fun i j => if j = 0 then .int .i64 (ps.getD i w0).pos else ws i) ++ [.int .i64 x.pos, u]))
    (hws : ∀ i, i < ps.length → IsBytes w' M' (ws i) (ps.getD i w0).data) (hu : IsBytes w' M' u x.data) (hM : ∀ b, base ≤ b → M' b) : IsWrs w' M' v (ps ++ [x]) := by
  obtain ⟨A, c, rfl, h1, h2, _, h3, _⟩ := own_cells2 hown
  refine ⟨A, c, by simp, by simpa using h1, h2, fun i => if i < ps.length then ws i else u, ?_, fun i hi => ?_⟩
  · intro hn
    obtain ⟨b, off, e, hb, hc⟩ := h3 (by omega)
    refine ⟨b, off, e, hM b hb, fun i j hi hj => ?_⟩
    simp at hi
    rw [hc i j hi hj]
    dsimp only
    have hj' : j = 0 ∨ j = 1 := by omega
    have hfl := flat_length 2 ps.length (fun i j => if j = 0 then .int .i64 (ps.getD i w0).pos else ws i)
    by_cases hlt : i < ps.length
    · have hd : (i * 2 + j) / 2 = i := by omega
      have hm : (i * 2 + j) % 2 = j := by omega
      rw [List.getD_eq_getElem?_getD, List.getElem?_append_left (by rw [hfl]; omega)]
      simp only [flat, List.getElem?_map, List.getElem?_range (by omega : i * 2 + j < ps.length * 2), Option.map_some, Option.getD_some, hd, hm]
      simp [List.getD_eq_getElem?_getD, List.getElem?_append_left hlt, hlt]
    · obtain rfl : i = ps.length := by omega
      rw [List.getD_eq_getElem?_getD, List.getElem?_append_right (by rw [hfl]; omega), hfl]
      rcases hj' with rfl | rfl
      · simp [List.getD_eq_getElem?_getD]
      · simp [show ps.length * 2 + 1 - ps.length * 2 = 1 by omega]
  · simp at hi
    by_cases hlt : i < ps.length
    · simpa [hlt, List.getD_eq_getElem?_getD, List.getElem?_append_left hlt] using hws i hlt
    · obtain rfl : i = ps.length := by omega
      simpa [List.getD_eq_getElem?_getD] using hu

theorem bytes_of_block {w : World} {M : Nat → Prop} {g : Nat} {t : TypeId} {bs : List UInt8} (h : w.heap[g]? = some (.cells (bs.map byt).toArray t (0, 0))) (hM : M g) (hl : bs.length ≤ 9223372036854775807) :
    IsBytes w M (.slice (some ⟨g, 0, none⟩) bs.length bs.length) bs := by
  refine ⟨_, _, rfl, Nat.le_refl _, hl, fun _ => ⟨g, 0, rfl, hM, fun i j hi hj => ?_⟩⟩
  obtain rfl : j = 0 := by omega
  simp [World.cell?, h, hi]
theorem splice_bytes (b : List UInt8) (_h : b.length ≤ 128) : splice z128 0 (b.map byt) = (b ++ List.replicate (128 - b.length) 0).map byt := by
  unfold splice z128
  rw [List.take_zero, List.nil_append, Nat.zero_add, List.length_map, List.drop_replicate, List.map_append, List.map_replicate]
  rfl
/-- only blocks from lo up to hi have turned -/
def OffR (lo hi : Nat) (w w' : World) : Prop := ∀ p : Addr, (p.block < lo ∨ hi ≤ p.block) → w'.cell? p = w.cell? p
theorem OffR.refl (lo hi : Nat) (w : World) : OffR lo hi w w := fun _ _ => rfl
theorem OffR.setCell {lo hi g : Nat} {w w' : World} (h : OffR lo hi w w') (h1 : lo ≤ g) (h2 : g < hi) (j : Nat) (u : Value) : OffR lo hi w (w'.setCell ⟨g, j, none⟩ u) := fun p hp =>
  (World.cell?_setCell_other w' ⟨g, j, none⟩ p u (fun e => by rw [← e] at hp; simp at hp; omega)).trans (h p hp)

set_option maxHeartbeats 800000 in
theorem write_go (w : World) (M : Nat → Prop) (d : DiskD) (v : Value) (h : IsDisk w M v d) (x : Int) (b : List UInt8) (bA : Option Addr) (bc : Nat) (hb : BytesC w M bA b) (hr : runsB d = true) (hh : hasB d x = true) (hb1 : b.length ≤ 128) (hp4 : d.pending.length ≠ 4096) :
    Calls Try.prog 26 #[v, .int .i64 x, .slice bA b.length bc] w (RetDiskE w (New M w) (writeD d x b)) := by
  have HS := Lib.hid (show writeD d x b = (⟨d.sectors, d.pending ++ [⟨x, b ++ List.replicate (128 - b.length) 0⟩], d.left, d.stopped⟩, 0) by simp only [writeD, hr, hh, Bool.and_self, if_true, if_pos hb1, if_neg hp4])
  replace h := h.mono (M' := fun b => M b ∧ b < w.heap.size) (fun b hb hM => ⟨hM, hb⟩)
  obtain ⟨sA, sc, pA, pc, rfl, hs1, hs2, hs3, hp1, hp2, hp3⟩ := h.parts
  obtain ⟨W1, hW1⟩ : ∃ W1, W1 = (w.alloc (.cells #[.slice sA d.sectors.length sc, .slice pA d.pending.length pc, .int .i64 d.left, .bool d.stopped] 25)).alloc (.cells #[.slice none 0 0, .slice none 0 0, .int .i64 0, .bool false] 25) := ⟨_, rfl⟩
  have hB1 : Below w.heap.size w W1 := by rw [hW1]; exact ((Below.refl w.heap.size w).alloc (Nat.le_refl _) _).alloc (by simp) _
  have hz : W1.heap.size = w.heap.size + 2 := by rw [hW1]; simp
  have k0 : W1.heap[w.heap.size]? = some (.cells #[.slice sA d.sectors.length sc, .slice pA d.pending.length pc, .int .i64 d.left, .bool d.stopped] 25 (0, 0)) := by rw [hW1]; exact heap2_0 _ _ _
  have k1 : W1.heap[w.heap.size + 1]? = some (.cells #[.slice none 0 0, .slice none 0 0, .int .i64 0, .bool false] 25 (0, 0)) := by rw [hW1]; exact heap2_1 _ _ _
  have C := Lib.hid (runs_any W1 _ d _ (h.below hB1))
  have C2 := Lib.hid (fun (W : World) (hW : Below w.heap.size w W) => has_any W _ d _ (h.below hW) x)
  obtain ⟨hst, g1, g2, g3, _, _, _⟩ := runs_parts hr
  rw [hr] at C
  rw [hh] at C2
  have HW := Lib.hid hW1
  have HB := Lib.hid hB1
  have HZ := Lib.hid hz
  have HK0 := Lib.hid k0
  have HK1 := Lib.hid k1
  clear hB1 h hz k0 k1 hst hr hh
  have h4 : ((d.pending.length : Int) == 4096) = false := by rw [beq_eq_false_iff_ne]; omega
  clear hp4
  have hmk := make128
  go_enter Try.func26, Try.ntmps26
  go_wp2_with fail
  rw [← HW.out]
  refine C.out.mono ?_
  rintro e w1 ⟨rfl, hb1'⟩
  have KB := Lib.hid ((hb1'.block w.heap.size (by rw [HZ.out]; omega)).trans HK0.out)
  have KR := Lib.hid ((hb1'.block (w.heap.size + 1) (by rw [HZ.out]; omega)).trans HK1.out)
  have hsz := hb1'.size
  rw [HZ.out] at hsz
  have HF := Lib.hid (HB.out.trans (hb1'.mono HB.out.size))
  clear hb1'
  obtain ⟨⟨c0, c1, c2, c3⟩, _⟩ := blk4 (Below.refl _ _) KB.out (Nat.lt_succ_self _)
  go_wp2_with fail
  refine (C2.out w1 HF.out).mono ?_
  rintro e w2 ⟨rfl, hb2⟩
  have KB2 := Lib.hid ((hb2.block w.heap.size (by omega)).trans KB.out)
  have KR2 := Lib.hid ((hb2.block (w.heap.size + 1) (by omega)).trans KR.out)
  have hsz2 := hb2.size
  have HF2 := Lib.hid (HF.out.trans (hb2.mono HF.out.size))
  clear hb2 c0 c1 c2 c3
  obtain ⟨⟨c0, c1, c2, c3⟩, _⟩ := blk4 (Below.refl _ _) KB2.out (Nat.lt_succ_self _)
  have hb8 : ¬ (128 : Int) < (b.length : Int) := by omega
  have HBY := Lib.hid (hb.keep (w' := w2.alloc (.cells z128.toArray 5)) (fun p _ hp => by
    have h1 := HF2.out.cell hp
    rw [World.cell?_alloc_lt _ _ _ (by have := HF2.out.size; omega)]
    exact h1))
  clear hb
  go_wp2_with (with_reducible refine wpList_copy_splice rfl _ _ 35 35 rfl 5 Try.underlying35 (by kernel_rfl) _ bA 128 128 b.length bc rfl rfl w2.heap.size 0 z128 5 ?hg (b.map byt) ?hn ?hpos ?hfit ?h1 (w.heap.size + 2) w2 ?hbel ?hBg ?_)
  case hg => exact heap1_0 _ _
  case hn => rw [List.length_map]; exact (Nat.min_eq_left hb1).symm
  case hpos =>
    intro h0
    obtain ⟨ad, e, hh⟩ := Cells.flat HBY.out h0 (by omega)
    refine ⟨ad, e, fun j y hy => hh j (byt y) ?_⟩
    have hl : j < b.length := (List.getElem?_eq_some_iff.1 hy).1
    have hy' : b[j] = y := (List.getElem?_eq_some_iff.1 hy).2
    simp [flat, hl, hy']
  case hfit => rw [List.length_map, z128_length]; omega
  case h1 => intro v hv; obtain ⟨y, _, rfl⟩ := List.mem_map.1 hv; rfl
  case hbel => exact (Below.refl _ _).alloc (by omega) _
  case hBg => omega
  intro w3 hk3 hb3
  have KB3 := Lib.hid ((hb3.block w.heap.size (by omega)).trans KB2.out)
  have KR3 := Lib.hid ((hb3.block (w.heap.size + 1) (by omega)).trans KR2.out)
  have hsz3 := hb3.size
  have hg3 : w2.heap.size < w3.heap.size := by
    rcases Nat.lt_or_ge w2.heap.size w3.heap.size with hl | hl
    · exact hl
    · have := hk3.out; rw [Array.getElem?_eq_none hl] at this; cases this
  have HF3 := Lib.hid (HF2.out.trans (hb3.mono (by omega)))
  clear hb3 c0 c1 c2 c3 hmk
  obtain ⟨⟨c0, c1, c2, c3⟩, ⟨f0, f1, f2, f3⟩⟩ := blk4 (Below.refl _ _) KB3.out (Nat.lt_succ_self _)
  obtain ⟨ws, hq3, hq4⟩ := hp3
  have hA : pA = none → d.pending.length = 0 := fun e => by
    rcases Nat.eq_zero_or_pos d.pending.length with h | h
    · exact h
    · obtain ⟨b, off, e', _⟩ := hq3 h; rw [e] at e'; cases e'
  have C3 := Lib.hid (cloneWrs_any w3 _ pA d.pending.length pc _ (by omega) hA (hq3.below HF3.out) (fun u hu => by
    obtain ⟨j, hj⟩ := List.getElem?_of_mem hu
    obtain ⟨hl, rfl⟩ := flat_get hj
    split
    · rfl
    · exact one_of_bytes (hq4 _ (by omega))))
  have HQ4 := Lib.hid hq4
  clear hq3 hq4 hA
  go_wp2_with fail
  refine C3.out.mono ?_
  rintro e w4 ⟨v4, rfl, hown4, hb4⟩
  obtain ⟨A4, c4, rfl, h41, h42, h43, h44, h45⟩ := own_cells2 hown4
  go_wp2_with fail
  refine (clip_any w4 A4 d.pending.length c4 h41 h42).mono ?_
  rintro e w5 ⟨rfl, rfl⟩
  have KB4 := Lib.hid ((hb4.block w.heap.size (by omega)).trans KB3.out)
  have KR4 := Lib.hid ((hb4.block (w.heap.size + 1) (by omega)).trans KR3.out)
  have hk4 := Lib.hid ((hb4.block w2.heap.size hg3).trans hk3.out)
  have hsz4 := hb4.size
  have HF4 := Lib.hid (HF3.out.trans (hb4.mono HF3.out.size))
  have H43 := Lib.hid h43
  have H44 := Lib.hid h44
  have H45 := Lib.hid h45
  have HO4 := Lib.hid hown4
  obtain ⟨i0, hi, hz0, hz1, hz2⟩ := info_parts Try.infoWr
  clear hb4 c0 c1 c2 c3 f0 f1 f2 f3 h43 h44 h45 hown4
  go_wp2_with (at_builtin; refine wpList_append_grows _ rfl _ _ 23 rfl 76 i0 (.agg #[.int .i64 0, .slice none 0 0]) 2 32 Try.underlying23 hi hz0 hz1 hz2 rfl (by decide) A4 d.pending.length d.pending.length (flat 2 d.pending.length (fun i j => if j = 0 then .int .i64 (d.pending.getD i w0).pos else ws i)) rfl ?hnone ?hlo ?holds ⟨w4.heap.size, 0, none⟩ 1 1 [.int .i64 x, .slice (some ⟨w2.heap.size, 0, none⟩) 128 128] rfl rfl ?hc ?h1c ?hfull ?b1 ?b2 ?_)
  case hnone => intro e; exact ⟨(H43.out e).1, (H43.out e).1⟩
  case hlo => exact flat_length _ _ _
  case holds =>
    intro b e j u hu
    have h1 := H45.out b e j u hu
    rw [World.cell?_alloc_lt _ _ _ (lt_of_cell h1)]
    exact h1
  case hc => exact World.news_of_block (cs := #[.int .i64 x, .slice (some ⟨w2.heap.size, 0, none⟩) 128 128]) (t := 76) (fr := (0, 0)) (heap_alloc_new w4 _)
  case h1c => intro u hu; simp at hu; rcases hu with rfl | rfl <;> rfl
  case hfull => omega
  case b1 => unfold maxLen; omega
  case b2 => omega
  intro v6 w6 hown6 hgrow6
  obtain ⟨g6, cap6, rfl, hg6, hl6⟩ := hown6.form (by omega)
  have hg6' : w4.heap.size < g6 := by first | omega | (simp at hg6; omega)
  have hB6 : Below (w4.heap.size) w4 w6 := ((Below.refl _ _).alloc (Nat.le_refl _) _).grown hgrow6 (by simp) (fun k e => by cases e)
  have KB6 := Lib.hid ((hB6.block w.heap.size (by omega)).trans KB4.out)
  have KR6 := Lib.hid ((hB6.block (w.heap.size + 1) (by omega)).trans KR4.out)
  have hk6 := Lib.hid ((hB6.block w2.heap.size (by omega)).trans hk4.out)
  have hsz6 := hB6.size
  have HF6 := Lib.hid (HF4.out.trans (hB6.mono HF4.out.size))
  have HO6 := Lib.hid hown6
  clear hown6 hgrow6 hB6
  obtain ⟨⟨c0, c1, c2, c3⟩, ⟨f0, f1, f2, f3⟩⟩ := blk4 (Below.refl _ _) KB6.out (Nat.lt_succ_self _)
  obtain ⟨⟨r0, r1, r2, r3⟩, ⟨q0, q1, q2, q3⟩⟩ := blk4 (Below.refl _ _) KR6.out (Nat.lt_succ_self _)
  go_wp2_with fail
  refine bodyPost_ret (v := .tuple #[.agg #[.slice sA d.sectors.length sc, .slice (some ⟨g6, 0, none⟩) (d.pending.length + 1) cap6, .int .i64 d.left, .bool d.stopped], .int .i64 0]) (by simp [results, Try.results26, go_sem, r0, r1, r2, r3]) rfl ?_
  obtain ⟨wf, hwf⟩ : ∃ wf, wf = ((((w6.setCell ⟨w.heap.size, 1, none⟩ (.slice (some ⟨g6, 0, none⟩) (d.pending.length + 1) cap6)).setCell ⟨w.heap.size + 1, 0, none⟩ (.slice sA d.sectors.length sc)).setCell ⟨w.heap.size + 1, 1, none⟩ (.slice (some ⟨g6, 0, none⟩) (d.pending.length + 1) cap6)).setCell ⟨w.heap.size + 1, 2, none⟩ (.int .i64 d.left)).setCell ⟨w.heap.size + 1, 3, none⟩ (.bool d.stopped) := ⟨_, rfl⟩
  rw [← hwf]
  have hoff : OffR w.heap.size (w.heap.size + 2) w6 wf := by
    rw [hwf]
    exact (((((OffR.refl _ _ _).setCell (by omega) (by omega) _ _).setCell (by omega) (by omega) _ _).setCell (by omega) (by omega) _ _).setCell (by omega) (by omega) _ _).setCell (by omega) (by omega) _ _
  have hbf : Below w.heap.size w wf := by
    rw [hwf]; refine Below.setCell (Below.setCell (Below.setCell (Below.setCell (Below.setCell HF6.out ?_ _) ?_ _) ?_ _) ?_ _) ?_ _ <;> simp
  have hof : wf.ownsRow (w4.heap.size + 1) 76 2 (.slice (some ⟨g6, 0, none⟩) (d.pending.length + 1) cap6) (d.pending.length + 1) (flat 2 d.pending.length (fun i j => if j = 0 then .int .i64 (d.pending.getD i w0).pos else ws i) ++ [.int .i64 x, .slice (some ⟨w2.heap.size, 0, none⟩) 128 128]) := by
    have h0 := HO6.out
    rw [hwf]
    refine ownsRow_setCell_below (ownsRow_setCell_below (ownsRow_setCell_below (ownsRow_setCell_below (ownsRow_setCell_below h0 ?_ _) ?_ _) ?_ _) ?_ _) ?_ _ <;> (dsimp only; omega)
  have hk7 : w6.heap[w2.heap.size]? = some (.cells ((b ++ List.replicate (128 - b.length) 0).map byt).toArray 5 (0, 0)) := by rw [← splice_bytes b hb1]; exact hk6.out
  have hlen : (b ++ List.replicate (128 - b.length) (0 : UInt8)).length = 128 := by simp; omega
  have hu : IsBytes wf (New M w) (.slice (some ⟨w2.heap.size, 0, none⟩) 128 128) (b ++ List.replicate (128 - b.length) 0) := by
    have h1 := bytes_of_block (M := fun g => w.heap.size + 2 ≤ g) hk7 (by omega) (by rw [hlen]; omega)
    rw [hlen] at h1
    exact (h1.keep (w' := wf) (fun p hp _ => hoff p (.inr hp))).mono fun g _ hg => .inr (by omega)
  refine RetDiskE.mk' (d := ⟨d.sectors, d.pending ++ [⟨x, b ++ List.replicate (128 - b.length) 0⟩], d.left, d.stopped⟩) ⟨_, _, rfl, ⟨sA, sc, rfl, hs1, hs2, ?_⟩, ?_⟩ hbf HS.out
  · exact (hs3.keep (fun _ _ hp => hbf.cell hp)).mono fun g _ hg => .inl hg.1
  · exact wrs_snoc (x := ⟨x, b ++ List.replicate (128 - b.length) 0⟩) hof (fun i hi => ((HQ4.out i hi).below hbf).mono fun g _ hg => .inl hg.1) hu (fun g hg => .inr (by omega))
end Go.Proofs.Ytocjhepiooljpaa
