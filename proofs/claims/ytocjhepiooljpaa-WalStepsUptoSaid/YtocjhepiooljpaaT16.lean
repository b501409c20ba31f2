import Derived.Test.YtocjhepiooljpaaT15
namespace Go.Proofs.Ytocjhepiooljpaa
open Go.RowKit Go.Shelf Go.Deep

def lenOf : Value → Nat | .slice _ n _ => n | _ => 0
def padTo (b : List UInt8) (k : Nat) : List Value := (b ++ List.replicate (k - b.length) 0).map byt
theorem padTo_start (b : List UInt8) : padTo b b.length = b.map byt := by simp [padTo]
theorem padTo_succ (b : List UInt8) (k : Nat) (h : b.length ≤ k) : padTo b k ++ [.int .u8 0] = padTo b (k + 1) := by
  unfold padTo
  rw [show k + 1 - b.length = k - b.length + 1 by omega, List.replicate_succ', ← List.append_assoc, List.map_append (l₂ := [0])]
  rfl
theorem padTo_length (b : List UInt8) (k : Nat) (h : b.length ≤ k) : (padTo b k).length = k := by simp [padTo]; omega
theorem one_byt (bs : List UInt8) : ∀ u ∈ bs.map byt, u.oneCell' = true := fun u hu => by obtain ⟨y, _, rfl⟩ := List.mem_map.1 hu; rfl
theorem one_byte (n : Int) : ∀ u ∈ [Value.int .u8 n], u.oneCell' = true := fun u hu => by simp at hu; subst hu; rfl
theorem bytes_flat {w : World} {M : Nat → Prop} {A : Option Addr} {bs : List UInt8} (h : BytesC w M A bs) (o : Obj) : 0 < bs.length → ∃ ad, A = some ad ∧ ∀ j u, (bs.map byt)[j]? = some u → (w.alloc o).cell? (ad.add j) = some u := fun h0 => by
  obtain ⟨ad, e, hh⟩ := Cells.flat h h0 (by omega)
  refine ⟨ad, e, fun j u hu => ?_⟩
  have hl : j < bs.length := by have := (List.getElem?_eq_some_iff.1 hu).1; simpa using this
  have h1 := hh j u (by
    have : u = byt bs[j] := by simp [hl] at hu; exact hu.symm
    rw [this]; simp [flat, hl])
  rw [World.cell?_alloc_lt _ _ _ (lt_of_cell h1)]
  exact h1
theorem Try.infoU8 : (Try.prog.info? 5).map (fun i => (i.zero, i.size, i.bytes)) = some (some (.int .u8 0), 1, 1) := by kernel_rfl
theorem own_ge {w : World} {base e sz n k : Nat} {v : Value} {xs : List Value} (ho : w.ownsRow base e sz v n xs) : v.ownBlock = some k → base ≤ k := fun h => by
  rcases ho.2 with ⟨rfl, _⟩ | ⟨r, cap, cur, rfl, hb, _⟩
  · cases h
  · simp [Value.ownBlock] at h; omega

theorem bytes_of_own {w : World} {base e c : Nat} {A : Option Addr} {b : List UInt8} (h : w.ownsRow base e 1 (.slice A 128 c) 128 (padTo b 128)) (hb : b.length ≤ 128) : IsBytes w (fun g => base ≤ g) (.slice A 128 c) (b ++ List.replicate (128 - b.length) 0) := by
  obtain ⟨A', c', e, h1, h2, h3⟩ := own_cells1 h
  cases e
  have hl : (b ++ List.replicate (128 - b.length) (0 : UInt8)).length = 128 := by simp; omega
  refine ⟨A, c, by rw [hl], by rw [hl]; exact h1, h2, fun hn => ?_⟩
  obtain ⟨g, off, e, hm, hc⟩ := h3 (by omega)
  refine ⟨g, off, e, hm, fun i j hi hj => ?_⟩
  rw [hl] at hi
  rw [hc i j hi hj]
  unfold padTo
  simp only [List.getD_eq_getElem?_getD, List.getElem?_map]
  rw [List.getElem?_eq_getElem (by rw [hl]; exact hi)]
  rfl
theorem cells_flat_alloc {w : World} {M : Nat → Prop} {sz n : Nat} {A : Option Addr} {f : Nat → Nat → Value} (h : Cells w M sz A n f) (hsz : 0 < sz) (o : Obj) : 0 < n → ∃ ad, A = some ad ∧ ∀ j u, (flat sz n f)[j]? = some u → (w.alloc o).cell? (ad.add j) = some u := fun h0 => by
  obtain ⟨ad, e, _⟩ := h.flat h0 hsz
  subst e
  exact ⟨ad, rfl, cells_alloc h hsz o⟩
theorem one_wrs {w : World} {M : Nat → Prop} {ps : List Wr} {ws : Nat → Value} (h : ∀ i, i < ps.length → IsBytes w M (ws i) (ps.getD i w0).data) : ∀ u ∈ flat 2 ps.length (fun i j => if j = 0 then .int .i64 (ps.getD i w0).pos else ws i), u.oneCell' = true := fun u hu => by
  obtain ⟨j, hj⟩ := List.getElem?_of_mem hu
  obtain ⟨hl, rfl⟩ := flat_get hj
  split
  · rfl
  · exact one_of_bytes (h _ (by omega))

set_option maxRecDepth 20000 in
set_option maxHeartbeats 800000 in
theorem refWrite_go (w : World) (M : Nat → Prop) (d : DiskD) (v : Value) (h : IsDisk w M v d) (x : Int) (b : List UInt8) (bA : Option Addr) (bc : Nat) (hb : BytesC w M bA b) (hr : runsB d = true) (hh : hasB d x = true) (hb1 : b.length ≤ 128) (hp4 : d.pending.length ≠ 4096) : Calls Try.prog 46 #[v, .int .i64 x, .slice bA b.length bc] w (RetDiskE w (New M w) (writeD d x b)) := by
  have HS := Lib.hid (show writeD d x b = (⟨d.sectors, d.pending ++ [⟨x, b ++ List.replicate (128 - b.length) 0⟩], d.left, d.stopped⟩, 0) by simp only [writeD, hr, hh, Bool.and_self, if_true, if_pos hb1, if_neg hp4])
  have h4 : ((d.pending.length : Int) == 4096) = false := by rw [beq_eq_false_iff_ne]; omega
  clear hp4
  have HST := Lib.hid (runs_parts hr).1
  replace h := h.mono (M' := fun b => M b ∧ b < w.heap.size) (fun b hb hM => ⟨hM, hb⟩)
  obtain ⟨sA, sc, pA, pc, rfl, hs1, hs2, hs3, hp1, hp2, hp3⟩ := h.parts
  obtain ⟨W1, hW1⟩ : ∃ W1, W1 = (w.alloc (.cells #[.slice sA d.sectors.length sc, .slice pA d.pending.length pc, .int .i64 d.left, .bool d.stopped] 25)).alloc (.cells #[.slice none 0 0, .slice none 0 0, .int .i64 0, .bool false] 25) := ⟨_, rfl⟩
  have hB1 : Below w.heap.size w W1 := by rw [hW1]; exact ((Below.refl w.heap.size w).alloc (Nat.le_refl _) _).alloc (by simp) _
  have hz : W1.heap.size = w.heap.size + 2 := by rw [hW1]; simp
  have k0 : W1.heap[w.heap.size]? = some (.cells #[.slice sA d.sectors.length sc, .slice pA d.pending.length pc, .int .i64 d.left, .bool d.stopped] 25 (0, 0)) := by rw [hW1]; exact heap2_0 _ _ _
  have k1 : W1.heap[w.heap.size + 1]? = some (.cells #[.slice none 0 0, .slice none 0 0, .int .i64 0, .bool false] 25 (0, 0)) := by rw [hW1]; exact heap2_1 _ _ _
  have C := Lib.hid (refCheck_any W1 _ d _ (h.below hB1))
  have HW := Lib.hid hW1
  have HB := Lib.hid hB1
  have HZ := Lib.hid hz
  have HK0 := Lib.hid k0
  have HK1 := Lib.hid k1
  clear hB1 h hz k0 k1
  go_enter Try.func46, Try.ntmps46
  go_wp2_with fail
  rw [← HW.out]
  refine C.out.mono ?_
  rintro e w1 ⟨rfl, hb1'⟩
  have KB := Lib.hid ((hb1'.block w.heap.size (by rw [HZ.out]; omega)).trans HK0.out)
  have KR := Lib.hid ((hb1'.block (w.heap.size + 1) (by rw [HZ.out]; omega)).trans HK1.out)
  have hsz := hb1'.size
  rw [HZ.out] at hsz
  have HF := Lib.hid (HB.out.trans (hb1'.mono HB.out.size))
  clear hb1' hW1
  obtain ⟨⟨c0, c1, c2, c3⟩, ⟨f0, f1, f2, f3⟩⟩ := blk4 (Below.refl _ _) KB.out (Nat.lt_succ_self _)
  obtain ⟨⟨r0, r1, r2, r3⟩, ⟨q0, q1, q2, q3⟩⟩ := blk4 (Below.refl _ _) KR.out (Nat.lt_succ_self _)
  obtain ⟨hst, g1, g2, g3, _, _, _⟩ := runs_parts hr
  have ho : okB d = true := by simp [runsB] at hr; exact hr.1
  rw [chk_of ho]
  rw [hst] at c3
  clear ho hst hr
  have hx : 0 ≤ x ∧ x < (d.sectors.length : Int) := by simpa [hasB] using hh
  obtain ⟨hx0, hx1⟩ := hx
  clear hh
  have hb8 : ¬ (128 : Int) < (b.length : Int) := by omega
  obtain ⟨i5, hi5, hz50, hz51, hz52⟩ := info_parts Try.infoU8
  have HBY := Lib.hid (bytes_flat (hb.keep (w' := w1) (fun p _ hp => HF.out.cell hp)) (.cells #[] 5))
  clear hb
  go_wp2_with (at_builtin; refine wpList_append_cells _ rfl _ _ 35 rfl w1.heap.size 5 i5 (.int .u8 0) 1 1 Try.underlying35 hi5 hz50 hz51 hz52 rfl (by decide) _ 0 [] rfl ?own1 bA b.length bc (b.map byt) rfl ?hl1 ?c11 ?c21 ?c31 ?c41 ?c51 ?_)
  case own1 => exact World.ownsRow_made _ _ _ (Nat.le_refl _) (by unfold maxLen; omega) (by simp)
  case hl1 => simp
  case c11 => exact HBY.out
  case c21 => exact one_byt b
  case c31 => unfold maxLen; omega
  case c41 => omega
  case c51 => simp
  intro v2 w2 hown2 hgrow2 _
  have HB2 : Hid (Below w1.heap.size w1 w2) := ((Below.refl _ _).alloc (Nat.le_refl _) _).grown hgrow2 (by simp) (fun k e => by simp [Value.ownBlock] at e; omega)
  have HO2 := Lib.hid hown2
  clear hown2 hgrow2
  go_wp2_with fail
  go_loopw [8] (fun s wr => ∃ k : Nat, b.length ≤ k ∧ k ≤ 128 ∧ Hid (wr.ownsRow w1.heap.size 5 1 s k (padTo b k)) ∧ Hid (Below w1.heap.size w1 wr)) (fun s _ => 128 - lenOf s)
  case atStart => exact ⟨b.length, Nat.le_refl _, hb1, by rw [padTo_start]; exact HO2, HB2⟩
  case round =>
    obtain ⟨k, hk1, hk, HO, HBr⟩ := hrel
    obtain ⟨sA8, sc8, rfl, hq81, hq82, _⟩ := own_cells1 HO.out
    have hszr := HBr.out.size
    by_cases hlt : k < 128
    · have hlt' : (k : Int) < 128 := by omega
      go_wp2_with (at_builtin; refine wpList_append_cells _ rfl _ _ 35 rfl w1.heap.size 5 i5 (.int .u8 0) 1 1 Try.underlying35 hi5 hz50 hz51 hz52 rfl (by decide) _ k (padTo b k) rfl (HO.out.alloc _) (some ⟨wr.heap.size, 0, none⟩) 1 1 [.int .u8 0] rfl rfl ?c12 ?c22 ?c32 ?c42 ?c52 ?_)
      case c12 => exact fun _ => ⟨_, rfl, cell_one_new _ _ _⟩
      case c22 => exact one_byte 0
      case c32 => unfold maxLen; omega
      case c42 => omega
      case c52 => simp; omega
      intro v3 w3 hown3 hgrow3 _
      have HB3 : Hid (Below w1.heap.size w1 w3) := (HBr.out.alloc hszr _).grown hgrow3 (by simp; omega) (fun k e => own_ge HO.out e)
      rw [padTo_succ _ _ hk1] at hown3
      obtain ⟨sA3, sc3, rfl, _⟩ := own_cells1 hown3
      have HO3 := Lib.hid hown3
      clear hown3 hgrow3
      go_wp2_with fail
      go_roundw
      case rel => exact ⟨k + 1, by omega, by omega, HO3, HB3⟩
      case measure => simp [lenOf]; omega
    · obtain rfl : k = 128 := by omega
      have hnlt : ¬ ((128 : Nat) : Int) < 128 := by omega
      have HBY8 := Lib.hid (bytes_of_own HO.out hb1)
      have KB5 := Lib.hid ((HBr.out.block w.heap.size (by omega)).trans KB.out)
      have KR5 := Lib.hid ((HBr.out.block (w.heap.size + 1) (by omega)).trans KR.out)
      have HF5 := Lib.hid (HF.out.trans (HBr.out.mono HF.out.size))
      clear c0 c1 c2 c3 f0 f1 f2 f3 r0 r1 r2 r3 q0 q1 q2 q3
      obtain ⟨⟨c0, c1, c2, c3⟩, ⟨f0, f1, f2, f3⟩⟩ := blk4 (Below.refl _ _) KB5.out (Nat.lt_succ_self _)
      obtain ⟨ws, hq3, hq4⟩ := hp3
      have HQ4 := Lib.hid hq4
      have HFL := Lib.hid (cells_flat_alloc (hq3.below HF5.out) (by omega) (.cells #[] 76))
      have HONE := Lib.hid (one_wrs hq4)
      obtain ⟨i0, hi, hz0, hz1, hz2⟩ := info_parts Try.infoWr
      have hszr2 : w.heap.size + 2 ≤ wr.heap.size := by omega
      clear hq3 hq4
      have hlw : w.heap.size < wr.heap.size := by omega
      go_wp2_with (at_builtin; refine wpList_append_cells _ rfl _ _ 23 rfl wr.heap.size 76 i0 (.agg #[.int .i64 0, .slice none 0 0]) 2 32 Try.underlying23 hi hz0 hz1 hz2 rfl (by decide) _ 0 [] rfl ?own3 pA d.pending.length pc (flat 2 d.pending.length (fun i j => if j = 0 then .int .i64 (d.pending.getD i w0).pos else ws i)) rfl ?hl3 ?c13 ?c23 ?c33 ?c43 ?c53 ?_)
      case own3 => exact World.ownsRow_made _ _ _ (Nat.le_refl _) (by unfold maxLen; omega) (by simp)
      case hl3 => exact flat_length _ _ _
      case c13 => exact HFL.out
      case c23 => exact HONE.out
      case c33 => unfold maxLen; omega
      case c43 => omega
      intro v6 w6 hown6 hgrow6 _
      have hB6 : Below wr.heap.size wr w6 := ((Below.refl _ _).alloc (Nat.le_refl _) _).grown hgrow6 (by simp) (fun k e => by simp [Value.ownBlock] at e; omega)
      have HB6 := Lib.hid hB6
      obtain ⟨A6, c6, rfl, h61, h62, _⟩ := own_cells2 hown6
      have HO6 := Lib.hid hown6
      have hsz6 := hB6.size
      clear hown6 hgrow6 hB6
      go_wp2_with (at_builtin; refine wpList_append_cells _ rfl _ _ 23 rfl wr.heap.size 76 i0 (.agg #[.int .i64 0, .slice none 0 0]) 2 32 Try.underlying23 hi hz0 hz1 hz2 rfl (by decide) _ d.pending.length _ rfl (HO6.out.alloc _) (some ⟨w6.heap.size, 0, none⟩) 1 1 [.int .i64 x, .slice sA8 128 sc8] rfl rfl ?c14 ?c24 ?c34 ?c44 ?c54 ?_)
      case c14 => exact fun _ => ⟨_, rfl, World.news_of_block (cs := #[.int .i64 x, .slice sA8 128 sc8]) (t := 76) (fr := (0, 0)) (heap_alloc_new w6 _)⟩
      case c24 => intro u hu; simp at hu; rcases hu with rfl | rfl <;> rfl
      case c34 => unfold maxLen; omega
      case c44 => omega
      case c54 => simp; omega
      intro v7 w7 hown7 hgrow7 _
      have hB7 : Below wr.heap.size wr w7 := (HB6.out.alloc hsz6 _).grown hgrow7 (by simp; omega) (fun k e => own_ge HO6.out e)
      have HB7 := Lib.hid hB7
      obtain ⟨A7, c7, rfl, h71, h72, _⟩ := own_cells2 hown7
      have HO7 := Lib.hid hown7
      have hsz7 := hB7.size
      have KB7 := Lib.hid ((hB7.block w.heap.size (by omega)).trans KB5.out)
      have KR7 := Lib.hid ((hB7.block (w.heap.size + 1) (by omega)).trans KR5.out)
      have HF7 := Lib.hid (HF5.out.trans (hB7.mono HF5.out.size))
      clear hown7 hgrow7 hB7 c0 c1 c2 c3 f0 f1 f2 f3
      obtain ⟨⟨c0, c1, c2, c3⟩, ⟨f0, f1, f2, f3⟩⟩ := blk4 (Below.refl _ _) KB7.out (Nat.lt_succ_self _)
      obtain ⟨⟨r0, r1, r2, r3⟩, ⟨q0, q1, q2, q3⟩⟩ := blk4 (Below.refl _ _) KR7.out (Nat.lt_succ_self _)
      go_wp2_with fail
      refine bodyPost_ret (v := .tuple #[.agg #[.slice sA d.sectors.length sc, .slice A7 (d.pending.length + 1) c7, .int .i64 d.left, .bool d.stopped], .int .i64 0]) (by simp [results, Try.results46, go_sem, r0, r1, r2, r3]) rfl ?_
      refine nameG (p := RetDiskE w _ _ _) fun wf hwf => ?_
      have hoff : OffR w.heap.size (w.heap.size + 2) w7 wf := by
        rw [hwf.out]; repeat (first | refine OffR.setCell ?_ (by omega) (by omega) _ _ | exact OffR.refl _ _ _)
      have hbf : Below w.heap.size w wf := by
        rw [hwf.out]; repeat (first | refine Below.setCell ?_ (by simp) _ | exact HF7.out)
      have hof : wf.ownsRow wr.heap.size 76 2 (.slice A7 (d.pending.length + 1) c7) (d.pending.length + 1) (flat 2 d.pending.length (fun i j => if j = 0 then .int .i64 (d.pending.getD i w0).pos else ws i) ++ [.int .i64 x, .slice sA8 128 sc8]) := by
        have h0 := HO7.out
        rw [hwf.out]; repeat (first | refine ownsRow_setCell_below ?_ (by dsimp only; omega) _ | exact h0)
      have hu : IsBytes wf (New M w) (.slice sA8 128 sc8) (b ++ List.replicate (128 - b.length) 0) := by
        have h1 := HBY8.out.below HB7.out
        exact (h1.keep (w' := wf) (fun p hp _ => hoff p (.inr (by omega)))).mono fun g _ hg => .inr (by omega)
      refine RetDiskE.mk' (d := ⟨d.sectors, d.pending ++ [⟨x, b ++ List.replicate (128 - b.length) 0⟩], d.left, d.stopped⟩) ⟨_, _, rfl, ⟨sA, sc, rfl, hs1, hs2, ?_⟩, ?_⟩ hbf HS.out
      · exact (hs3.keep (fun _ _ hp => hbf.cell hp)).mono fun g _ hg => .inl hg.1
      · exact wrs_snoc (x := ⟨x, b ++ List.replicate (128 - b.length) 0⟩) hof (fun i hi => ((HQ4.out i hi).below hbf).mono fun g _ hg => .inl hg.1) hu (fun g hg => .inr (by omega))

theorem refWrite_any (w : World) (M : Nat → Prop) (d : DiskD) (v : Value) (h : IsDisk w M v d) (x : Int) (b : List UInt8) (bA : Option Addr) (bc : Nat) (hb : BytesC w M bA b) (hbl : b.length ≤ 9223372036854775807) : Calls Try.prog 46 #[v, .int .i64 x, .slice bA b.length bc] w (RetDiskE w (New M w) (writeD d x b)) := by
  by_cases hr : runsB d = true
  · by_cases hh : hasB d x = true
    · by_cases hb1 : b.length ≤ 128
      · by_cases hp : d.pending.length = 4096
        · exact refWrite_full w M d v h x b bA bc hr hh hb1 hp
        · exact refWrite_go w M d v h x b bA bc hb hr hh hb1 hp
      · exact refWrite_long w M d v h x b bA bc hr hh (by omega) hbl
    · exact refWrite_nosec w M d v h x b bA bc hr (by simpa using hh)
  · exact refWrite_norun w M d v h x b bA bc (by simpa using hr)
end Go.Proofs.Ytocjhepiooljpaa
