/- The reference's Open. -/
import Derived.Test.YtgaanndidcdbpaaGreatU6
import Derived.Test.YtgaanndidcdbpaaGreatV2
import Derived.Deep.DeepCutAuto
import Derived.BigQuiet
namespace Go.Proofs.YtgaanndidcdbpaaGreat
open Go.RowKit Go.Shelf

set_option maxRecDepth 100000 in
set_option maxHeartbeats 16000000 in
theorem rOpen_any (w : World) (M : Nat → Prop) (v : Value) (b : BeaD) (o : OpnD) (h : IsBea w M v b) (hs : SmallB b) : Calls Tryz.prog 17 #[v, .agg #[.int .i64 o.club, .int .i64 o.frm, .int .u64 (o.sh.1 : Int), .int .u64 (o.sh.2 : Int)]] w (BeaE w (fun q => M q ∨ w.heap.size ≤ q) (openD b o)) := by
  obtain ⟨cA, cc, kA, kc, rA, rc, oA, oc, rfl, i1, i2, i3, i4⟩ := h.parts
  have HI1 := Lib.hid i1
  have HI2 := Lib.hid i2
  have HI3 := Lib.hid i3
  have HI4 := Lib.hid i4
  have HBE := Lib.hid h
  have HS := Lib.hid hs
  obtain ⟨R, hR⟩ : ∃ R, R = openD b o := ⟨_, rfl⟩
  have HR := Lib.hid (hR.trans (openD_ref b o))
  rw [← hR]
  obtain ⟨ck, hck⟩ : ∃ z, z = chkD b := ⟨_, rfl⟩
  obtain ⟨fz, hfz⟩ : ∃ z, z = opR b o := ⟨_, rfl⟩
  obtain ⟨hz, hhz⟩ : ∃ z, z = (List.range b.opns.length).any (fun i => decide ((opnN b.opns i).club = o.club) && decide ((opnN b.opns i).frm = o.frm)) := ⟨_, rfl⟩
  obtain ⟨dz, hdz⟩ : ∃ z, z = complR b := ⟨_, rfl⟩
  have HHZ := Lib.hid hhz
  have D3 := Lib.hid (fun (W : World) (hW : Below w.heap.size w W) => Lib.hid (rofits_any W M _ b o (HBE.out.below hW) hs))
  have D2 := Lib.hid (fun (W : World) (hW : Below w.heap.size w W) => Lib.hid (rcomplete_any W M _ b (HBE.out.below hW) hs))
  rw [← hdz] at D2
  rw [← hck, ← hhz, ← hdz, ← hfz] at HR
  rw [← hfz] at D3
  have D1 := Lib.hid (fun (W : World) (hW : Below w.heap.size w W) => Lib.hid (rcheck_any W M _ b (HBE.out.below hW) hs))
  rw [← hck] at D1
  obtain ⟨cx, hcx⟩ : ∃ x, x = o.club := ⟨_, rfl⟩
  obtain ⟨fx, hfx⟩ : ∃ x, x = o.frm := ⟨_, rfl⟩
  obtain ⟨sx, hsx⟩ : ∃ x, x = o.sh.1 := ⟨_, rfl⟩
  obtain ⟨sy, hsy⟩ : ∃ x, x = o.sh.2 := ⟨_, rfl⟩
  have HX := Lib.hid (And.intro hcx (And.intro hfx (And.intro hsx hsy)))
  rw [← hcx, ← hfx, ← hsx, ← hsy]
  (try rw [← hcx] at D2)
  (try rw [← hfx] at D2)
  (try rw [← hsx] at D2)
  (try rw [← hsy] at D2)
  (try rw [← hcx] at D3)
  (try rw [← hfx] at D3)
  (try rw [← hsx] at D3)
  (try rw [← hsy] at D3)
  (try rw [← hcx] at HHZ)
  (try rw [← hfx] at HHZ)
  have hmb : b.coms.length ≤ 1000 := hs.co
  have hrb : b.revs.length ≤ 1000 := hs.re
  have hob : b.opns.length ≤ 1000 := hs.op
  clear h hs i1 i2 i3 i4 hR hck hfz hhz hdz hcx hfx hsx hsy
  go_enter Tryz.func17, Tryz.ntmps17
  go_upto_region 1 with fail
  refine nameC fun W1 hW1 => ?_
  have hb1 : Below w.heap.size w W1 := by rw [hW1.out]; exact (((Below.refl _ _).alloc (Nat.le_refl _) _).alloc (by simp) _).alloc (by simp; omega) _
  have k0 : W1.heap[w.heap.size]? = some (.cells #[.slice cA b.clubs.length cc, .int .i64 b.thr, .int .u64 (b.rng : Int), .slice kA b.coms.length kc, .slice rA b.revs.length rc, .slice oA b.opns.length oc] 28 (0, 0)) := by rw [hW1.out]; simp only [heap_alloc_if, World.size_alloc]; rw [if_neg (by omega)]; rw [if_neg (by omega)]; rw [if_pos trivial]
  have k1 : W1.heap[w.heap.size + 1]? = some (.cells #[.int .i64 cx, .int .i64 fx, .int .u64 (sx : Int), .int .u64 (sy : Int)] 37 (0, 0)) := by rw [hW1.out]; simp only [heap_alloc_if, World.size_alloc]; rw [if_neg (by omega)]; rw [if_pos trivial]
  have k2 : W1.heap[w.heap.size + 1 + 1]? = some (.cells #[.slice none 0 0, .int .i64 0, .int .u64 0, .slice none 0 0, .slice none 0 0, .slice none 0 0] 28 (0, 0)) := by rw [hW1.out]; simp only [heap_alloc_if, World.size_alloc]; rw [if_pos trivial]
  obtain ⟨B2, hB2⟩ : ∃ B, B = w.heap.size + 1 + 1 := ⟨_, rfl⟩
  rw [← hB2] at k2 ⊢
  obtain ⟨B1, hB1⟩ : ∃ B, B = w.heap.size + 1 := ⟨_, rfl⟩
  rw [← hB1] at k1 ⊢
  have hne1 : w.heap.size < B1 := by omega
  have hne2 : B1 < B2 := by omega
  have HC := Lib.hid (show ∀ W', Below W1.heap.size W1 W' → (W'.cell? ⟨w.heap.size, 0, none⟩ = some (.slice cA b.clubs.length cc) ∧ W'.cell? ⟨w.heap.size, 1, none⟩ = some (.int .i64 b.thr) ∧ W'.cell? ⟨w.heap.size, 2, none⟩ = some (.int .u64 (b.rng : Int)) ∧ W'.cell? ⟨w.heap.size, 3, none⟩ = some (.slice kA b.coms.length kc) ∧ W'.cell? ⟨w.heap.size, 4, none⟩ = some (.slice rA b.revs.length rc) ∧ W'.cell? ⟨w.heap.size, 5, none⟩ = some (.slice oA b.opns.length oc) ∧ W'.cell? ⟨B1, 0, none⟩ = some (.int .i64 cx) ∧ W'.cell? ⟨B1, 1, none⟩ = some (.int .i64 fx) ∧ W'.cell? ⟨B1, 2, none⟩ = some (.int .u64 (sx : Int)) ∧ W'.cell? ⟨B1, 3, none⟩ = some (.int .u64 (sy : Int))) from fun W' h => by
    have e0 := (h.block _ (lt_heap k0)).trans k0
    have e1 := (h.block _ (lt_heap k1)).trans k1
    exact ⟨cell_of e0 rfl, cell_of e0 rfl, cell_of e0 rfl, cell_of e0 rfl, cell_of e0 rfl, cell_of e0 rfl, cell_of e1 rfl, cell_of e1 rfl, cell_of e1 rfl, cell_of e1 rfl⟩)
  have K0 := Lib.hid (show ∀ W', Below W1.heap.size W1 W' → W'.heap[w.heap.size]? = some (.cells #[.slice cA b.clubs.length cc, .int .i64 b.thr, .int .u64 (b.rng : Int), .slice kA b.coms.length kc, .slice rA b.revs.length rc, .slice oA b.opns.length oc] 28 (0, 0)) from fun W' h => (h.block _ (lt_heap k0)).trans k0)
  have KZ := Lib.hid (show ∀ W', Below W1.heap.size W1 W' → W'.heap[B2]? = some (.cells #[.slice none 0 0, .int .i64 0, .int .u64 0, .slice none 0 0, .slice none 0 0, .slice none 0 0] 28 (0, 0)) from fun W' h => (h.block _ (lt_heap k2)).trans k2)
  have hsz1 := lt_heap k2
  have HB1 := Lib.hid hb1
  clear hW1 hb1 k0 k1 k2 hB1 hB2
  have HB0 : Hid (Below W1.heap.size W1 W1) := Lib.hid (Below.refl _ _)
  obtain ⟨c0, c1, c2, c3, c4, c5, d0, d1, d2, d3⟩ := HC.out _ HB0.out
  go_wp2_with fail
  refine (D1.out _ (HB1.out.trans (HB0.out.mono HB1.out.size))).out.mono ?_
  rintro e W2 ⟨rfl, hb⟩
  have HB2 : Hid (Below W1.heap.size W1 W2) := Lib.hid (HB0.out.trans (hb.mono HB0.out.size))
  clear hb
  clear c0 c1 c2 c3 c4 c5 d0 d1 d2 d3
  obtain ⟨c0, c1, c2, c3, c4, c5, d0, d1, d2, d3⟩ := HC.out _ HB2.out
  by_cases t0 : ck = 0
  case neg =>
    have b0 : (ck != 0) = true := by rw [bne_iff_ne]; exact t0
    have HQ := Lib.hid (show R = (bea0, 240) by rw [HR.out, if_pos t0])
    clear t0
    clear c0 c1 c2 c3 c4 c5 d0 d1 d2 d3
    obtain ⟨c0, c1, c2, c3, c4, c5, d0, d1, d2, d3⟩ := HC.out _ HB2.out
    have kz := KZ.out W2 HB2.out
    have m0 := cell_of (j := 0) kz rfl
    have fm0 : W2.frozen? ⟨B2, 0, none⟩ = false := by simp [World.frozen?, kz]
    have m1 := cell_of (j := 1) kz rfl
    have fm1 : W2.frozen? ⟨B2, 1, none⟩ = false := by simp [World.frozen?, kz]
    have m2 := cell_of (j := 2) kz rfl
    have fm2 : W2.frozen? ⟨B2, 2, none⟩ = false := by simp [World.frozen?, kz]
    have m3 := cell_of (j := 3) kz rfl
    have fm3 : W2.frozen? ⟨B2, 3, none⟩ = false := by simp [World.frozen?, kz]
    have m4 := cell_of (j := 4) kz rfl
    have fm4 : W2.frozen? ⟨B2, 4, none⟩ = false := by simp [World.frozen?, kz]
    have m5 := cell_of (j := 5) kz rfl
    have fm5 : W2.frozen? ⟨B2, 5, none⟩ = false := by simp [World.frozen?, kz]
    go_wp2_with fail
    refine nameG (p := fun W => bodyPost Tryz.prog Tryz.f17 _ Exit.ret _ W) fun W7 hW7 => ?_
    have hk7 : W7.heap[B2]? = some (.cells #[.slice none 0 0, .int .i64 0, .int .u64 0, .slice none 0 0, .slice none 0 0, .slice none 0 0] 28 (0, 0)) := by
      have hx := (Blk_set (Blk_set (Blk_set (Blk_set (Blk_set (Blk_set kz (j := 0) (.slice none 0 0)) (j := 1) (.int .i64 0)) (j := 2) (.int .u64 0)) (j := 3) (.slice none 0 0)) (j := 4) (.slice none 0 0)) (j := 5) (.slice none 0 0))
      rw [hW7.out, hx]; rfl
    have j0 := cell_of (j := 0) hk7 rfl
    have j1 := cell_of (j := 1) hk7 rfl
    have j2 := cell_of (j := 2) hk7 rfl
    have j3 := cell_of (j := 3) hk7 rfl
    have j4 := cell_of (j := 4) hk7 rfl
    have j5 := cell_of (j := 5) hk7 rfl
    refine bodyPost_ret (v := .tuple #[.agg #[.slice none 0 0, .int .i64 0, .int .u64 0, .slice none 0 0, .slice none 0 0, .slice none 0 0], .int .i64 240]) (by simp [results, Tryz.results17, go_sem, j0, j1, j2, j3, j4, j5]) rfl ?_
    refine ⟨_, by rw [HQ.out], by rw [HQ.out]; exact IsBea.zero, ?_⟩
    rw [hW7.out]
    exact (((((((HB1.out.trans (HB2.out.mono HB1.out.size)).setCell (by show w.heap.size ≤ B2; omega) _).setCell (by show w.heap.size ≤ B2; omega) _).setCell (by show w.heap.size ≤ B2; omega) _).setCell (by show w.heap.size ≤ B2; omega) _).setCell (by show w.heap.size ≤ B2; omega) _).setCell (by show w.heap.size ≤ B2; omega) _)
  have b0 : (ck != 0) = false := by rw [bne_eq_false_iff_eq]; exact t0
  have HR2 := Lib.hid (HR.out.trans (if_neg (fun h => h t0)))
  clear t0
  go_wp2_with fail
  refine (D2.out _ (HB1.out.trans (HB2.out.mono HB1.out.size))).out.mono ?_
  rintro e W3 ⟨rfl, hb⟩
  have HB3 : Hid (Below W1.heap.size W1 W3) := Lib.hid (HB2.out.trans (hb.mono HB2.out.size))
  clear hb
  clear c0 c1 c2 c3 c4 c5 d0 d1 d2 d3
  obtain ⟨c0, c1, c2, c3, c4, c5, d0, d1, d2, d3⟩ := HC.out _ HB3.out
  cases dz
  case false =>
    have HQ := Lib.hid (show R = (bea0, 240) by rw [HR2.out]; rfl)
    have kz := KZ.out W3 HB3.out
    have m0 := cell_of (j := 0) kz rfl
    have fm0 : W3.frozen? ⟨B2, 0, none⟩ = false := by simp [World.frozen?, kz]
    have m1 := cell_of (j := 1) kz rfl
    have fm1 : W3.frozen? ⟨B2, 1, none⟩ = false := by simp [World.frozen?, kz]
    have m2 := cell_of (j := 2) kz rfl
    have fm2 : W3.frozen? ⟨B2, 2, none⟩ = false := by simp [World.frozen?, kz]
    have m3 := cell_of (j := 3) kz rfl
    have fm3 : W3.frozen? ⟨B2, 3, none⟩ = false := by simp [World.frozen?, kz]
    have m4 := cell_of (j := 4) kz rfl
    have fm4 : W3.frozen? ⟨B2, 4, none⟩ = false := by simp [World.frozen?, kz]
    have m5 := cell_of (j := 5) kz rfl
    have fm5 : W3.frozen? ⟨B2, 5, none⟩ = false := by simp [World.frozen?, kz]
    go_wp2_with fail
    refine nameG (p := fun W => bodyPost Tryz.prog Tryz.f17 _ Exit.ret _ W) fun W7 hW7 => ?_
    have hk7 : W7.heap[B2]? = some (.cells #[.slice none 0 0, .int .i64 0, .int .u64 0, .slice none 0 0, .slice none 0 0, .slice none 0 0] 28 (0, 0)) := by
      have hx := (Blk_set (Blk_set (Blk_set (Blk_set (Blk_set (Blk_set kz (j := 0) (.slice none 0 0)) (j := 1) (.int .i64 0)) (j := 2) (.int .u64 0)) (j := 3) (.slice none 0 0)) (j := 4) (.slice none 0 0)) (j := 5) (.slice none 0 0))
      rw [hW7.out, hx]; rfl
    have j0 := cell_of (j := 0) hk7 rfl
    have j1 := cell_of (j := 1) hk7 rfl
    have j2 := cell_of (j := 2) hk7 rfl
    have j3 := cell_of (j := 3) hk7 rfl
    have j4 := cell_of (j := 4) hk7 rfl
    have j5 := cell_of (j := 5) hk7 rfl
    refine bodyPost_ret (v := .tuple #[.agg #[.slice none 0 0, .int .i64 0, .int .u64 0, .slice none 0 0, .slice none 0 0, .slice none 0 0], .int .i64 240]) (by simp [results, Tryz.results17, go_sem, j0, j1, j2, j3, j4, j5]) rfl ?_
    refine ⟨_, by rw [HQ.out], by rw [HQ.out]; exact IsBea.zero, ?_⟩
    rw [hW7.out]
    exact (((((((HB1.out.trans (HB3.out.mono HB1.out.size)).setCell (by show w.heap.size ≤ B2; omega) _).setCell (by show w.heap.size ≤ B2; omega) _).setCell (by show w.heap.size ≤ B2; omega) _).setCell (by show w.heap.size ≤ B2; omega) _).setCell (by show w.heap.size ≤ B2; omega) _).setCell (by show w.heap.size ≤ B2; omega) _)
  have HR3 := Lib.hid (show R = if hz = true then (bea0, 240) else if fz = true then ({b with opns := b.opns ++ [o]}, 0) else (bea0, 241) by rw [HR2.out]; rfl)
  go_wp2_with fail
  clear c0 c1 c2 c3 c4 c5 d0 d1 d2 d3
  have HG3 := Lib.hid HB3.out.size
  go_loopw [6] (fun i wr => ∃ k : Nat, k ≤ b.opns.length ∧ i = .int .i64 (k : Int) ∧ Hid (∀ j, j < k → (decide ((opnN b.opns j).club = cx) && decide ((opnN b.opns j).frm = fx)) = false) ∧ Hid (Below W1.heap.size W1 wr)) (fun i _ => b.opns.length - (intOf i).toNat)
  case atStart => exact ⟨0, Nat.zero_le _, rfl, Lib.hid (fun j hj => absurd hj (by omega)), HB3⟩
  case round =>
    clear HB3
    obtain ⟨k, hk, rfl, HNO, HB⟩ := hrel
    have HBw := Lib.hid (HB1.out.trans (HB.out.mono HB1.out.size))
    obtain ⟨c0, c1, c2, c3, c4, c5, d0, d1, d2, d3⟩ := HC.out _ HB.out
    by_cases hlt : k < b.opns.length
    · have hk1 : (k : Int) < (b.opns.length : Int) := by omega
      have hk0 : (0 : Int) ≤ (k : Int) := by omega
      have HKL := Lib.hid hlt
      obtain ⟨A9', c9', e9', -, -, hcells⟩ := HI4.out
      cases e9'
      obtain ⟨g9, o9, rfl, -, hgl, e0, e1, -, -⟩ := Cells.at4 hcells HBw.out hlt
      replace e0 : wr.cell? ⟨g9, o9 + k * 4, none⟩ = some (.int .i64 (opnN b.opns k).club) := e0
      replace e1 : wr.cell? ⟨g9, o9 + k * 4 + 1, none⟩ = some (.int .i64 (opnN b.opns k).frm) := e1
      obtain ⟨yc, hyc⟩ : ∃ q, q = (opnN b.opns k).club := ⟨_, rfl⟩
      obtain ⟨yf, hyf⟩ : ∃ q, q = (opnN b.opns k).frm := ⟨_, rfl⟩
      rw [← hyc] at e0
      rw [← hyf] at e1
      obtain ⟨z1, hz1⟩ : ∃ z, z = (yc == cx) := ⟨_, rfl⟩
      obtain ⟨z2, hz2⟩ : ∃ z, z = (yf == fx) := ⟨_, rfl⟩
      obtain ⟨z, hz9⟩ : ∃ z, z = (z1 && z2) := ⟨_, rfl⟩
      have HZ := Lib.hid (show (decide ((opnN b.opns k).club = cx) && decide ((opnN b.opns k).frm = fx)) = z by rw [hz9, hz1, hz2, ← hyc, ← hyf, Bool.eq_iff_iff, Bool.and_eq_true, Bool.and_eq_true, decide_eq_true_eq, decide_eq_true_eq, beq_iff_eq, beq_iff_eq])
      have HZZ := Lib.hid hz9
      replace hz1 := hz1.symm
      replace hz2 := hz2.symm
      clear hyc hyf hgl hcells hz9
      go_upto_region 6 with fail
      go_cut [42] (fun s42 W => s42 = .bool z ∧ Hid (Below wr.heap.size wr W))
      case first =>
        cases z1 <;> cases z2 <;> (go_quiet (fail); (try go_wp2_with fail); go_meet; case rel => exact ⟨by rw [HZZ.out]; rfl, Lib.hid (below_drewN (Below.refl _ _) _)⟩)
      case rest =>
        obtain ⟨rfl, HBc⟩ := hcut
        have HB2c := Lib.hid (HB.out.trans (HBc.out.mono HB.out.size))
        clear c0 c1 c2 c3 c4 c5 d0 d1 d2 d3 e0 e1 hz1 hz2
        cases z with
        | true =>
          have HQ := Lib.hid (show R = (bea0, 240) by
            rw [HR3.out, HHZ.out, List.any_eq_true.2 ⟨k, List.mem_range.2 HKL.out, HZ.out⟩]; rfl)
          obtain ⟨c0, c1, c2, c3, c4, c5, d0, d1, d2, d3⟩ := HC.out _ HB2c.out
          have kz := KZ.out wc HB2c.out
          have m0 := cell_of (j := 0) kz rfl
          have fm0 : wc.frozen? ⟨B2, 0, none⟩ = false := by simp [World.frozen?, kz]
          have m1 := cell_of (j := 1) kz rfl
          have fm1 : wc.frozen? ⟨B2, 1, none⟩ = false := by simp [World.frozen?, kz]
          have m2 := cell_of (j := 2) kz rfl
          have fm2 : wc.frozen? ⟨B2, 2, none⟩ = false := by simp [World.frozen?, kz]
          have m3 := cell_of (j := 3) kz rfl
          have fm3 : wc.frozen? ⟨B2, 3, none⟩ = false := by simp [World.frozen?, kz]
          have m4 := cell_of (j := 4) kz rfl
          have fm4 : wc.frozen? ⟨B2, 4, none⟩ = false := by simp [World.frozen?, kz]
          have m5 := cell_of (j := 5) kz rfl
          have fm5 : wc.frozen? ⟨B2, 5, none⟩ = false := by simp [World.frozen?, kz]
          go_wp2_with fail
          refine nameG (p := fun W => bodyPost Tryz.prog Tryz.f17 _ Exit.ret _ W) fun W7 hW7 => ?_
          have hk7 : W7.heap[B2]? = some (.cells #[.slice none 0 0, .int .i64 0, .int .u64 0, .slice none 0 0, .slice none 0 0, .slice none 0 0] 28 (0, 0)) := by
            have hx := (Blk_set (Blk_set (Blk_set (Blk_set (Blk_set (Blk_set kz (j := 0) (.slice none 0 0)) (j := 1) (.int .i64 0)) (j := 2) (.int .u64 0)) (j := 3) (.slice none 0 0)) (j := 4) (.slice none 0 0)) (j := 5) (.slice none 0 0))
            rw [hW7.out, hx]; rfl
          have j0 := cell_of (j := 0) hk7 rfl
          have j1 := cell_of (j := 1) hk7 rfl
          have j2 := cell_of (j := 2) hk7 rfl
          have j3 := cell_of (j := 3) hk7 rfl
          have j4 := cell_of (j := 4) hk7 rfl
          have j5 := cell_of (j := 5) hk7 rfl
          refine bodyPost_ret (v := .tuple #[.agg #[.slice none 0 0, .int .i64 0, .int .u64 0, .slice none 0 0, .slice none 0 0, .slice none 0 0], .int .i64 240]) (by simp [results, Tryz.results17, go_sem, j0, j1, j2, j3, j4, j5]) rfl ?_
          refine ⟨_, by rw [HQ.out], by rw [HQ.out]; exact IsBea.zero, ?_⟩
          rw [hW7.out]
          exact (((((((HB1.out.trans (HB2c.out.mono HB1.out.size)).setCell (by show w.heap.size ≤ B2; omega) _).setCell (by show w.heap.size ≤ B2; omega) _).setCell (by show w.heap.size ≤ B2; omega) _).setCell (by show w.heap.size ≤ B2; omega) _).setCell (by show w.heap.size ≤ B2; omega) _).setCell (by show w.heap.size ≤ B2; omega) _)
        | false =>
          have HN2 := Lib.hid (show ∀ j, j < k + 1 → (decide ((opnN b.opns j).club = cx) && decide ((opnN b.opns j).frm = fx)) = false from fun j hj => by
            rcases Nat.lt_or_ge j k with q1 | q1
            · exact HNO.out j q1
            · rw [show j = k by omega]; exact HZ.out)
          go_wp2_with fail
          go_roundw
          case rel => exact ⟨k + 1, by omega, by go_num, HN2, HB2c⟩
          case measure => simp [intOf]; omega
    · obtain rfl : k = b.opns.length := by omega
      have hk1 : ¬ (b.opns.length : Int) < (b.opns.length : Int) := by omega
      have HZF := Lib.hid (show hz = false by
        rw [HHZ.out]
        exact List.any_eq_false.2 fun j hj => by rw [HNO.out j (List.mem_range.1 hj)]; simp)
      have HR4 := Lib.hid (show R = if fz = true then ({b with opns := b.opns ++ [o]}, 0) else (bea0, 241) by rw [HR3.out, HZF.out]; rfl)
      clear hlt hk
      go_wp2_with fail
      refine (D3.out _ HBw.out).out.mono ?_
      rintro e W6 ⟨rfl, hb⟩
      have HB6 : Hid (Below W1.heap.size W1 W6) := Lib.hid (HB.out.trans (hb.mono HB.out.size))
      clear hb
      clear c0 c1 c2 c3 c4 c5 d0 d1 d2 d3
      cases fz
      case false =>
        have HQ := Lib.hid (show R = (bea0, 241) by rw [HR4.out]; rfl)
        obtain ⟨c0, c1, c2, c3, c4, c5, d0, d1, d2, d3⟩ := HC.out _ HB6.out
        have kz := KZ.out W6 HB6.out
        have m0 := cell_of (j := 0) kz rfl
        have fm0 : W6.frozen? ⟨B2, 0, none⟩ = false := by simp [World.frozen?, kz]
        have m1 := cell_of (j := 1) kz rfl
        have fm1 : W6.frozen? ⟨B2, 1, none⟩ = false := by simp [World.frozen?, kz]
        have m2 := cell_of (j := 2) kz rfl
        have fm2 : W6.frozen? ⟨B2, 2, none⟩ = false := by simp [World.frozen?, kz]
        have m3 := cell_of (j := 3) kz rfl
        have fm3 : W6.frozen? ⟨B2, 3, none⟩ = false := by simp [World.frozen?, kz]
        have m4 := cell_of (j := 4) kz rfl
        have fm4 : W6.frozen? ⟨B2, 4, none⟩ = false := by simp [World.frozen?, kz]
        have m5 := cell_of (j := 5) kz rfl
        have fm5 : W6.frozen? ⟨B2, 5, none⟩ = false := by simp [World.frozen?, kz]
        go_wp2_with fail
        refine nameG (p := fun W => bodyPost Tryz.prog Tryz.f17 _ Exit.ret _ W) fun W7 hW7 => ?_
        have hk7 : W7.heap[B2]? = some (.cells #[.slice none 0 0, .int .i64 0, .int .u64 0, .slice none 0 0, .slice none 0 0, .slice none 0 0] 28 (0, 0)) := by
          have hx := (Blk_set (Blk_set (Blk_set (Blk_set (Blk_set (Blk_set kz (j := 0) (.slice none 0 0)) (j := 1) (.int .i64 0)) (j := 2) (.int .u64 0)) (j := 3) (.slice none 0 0)) (j := 4) (.slice none 0 0)) (j := 5) (.slice none 0 0))
          rw [hW7.out, hx]; rfl
        have j0 := cell_of (j := 0) hk7 rfl
        have j1 := cell_of (j := 1) hk7 rfl
        have j2 := cell_of (j := 2) hk7 rfl
        have j3 := cell_of (j := 3) hk7 rfl
        have j4 := cell_of (j := 4) hk7 rfl
        have j5 := cell_of (j := 5) hk7 rfl
        refine bodyPost_ret (v := .tuple #[.agg #[.slice none 0 0, .int .i64 0, .int .u64 0, .slice none 0 0, .slice none 0 0, .slice none 0 0], .int .i64 241]) (by simp [results, Tryz.results17, go_sem, j0, j1, j2, j3, j4, j5]) rfl ?_
        refine ⟨_, by rw [HQ.out], by rw [HQ.out]; exact IsBea.zero, ?_⟩
        rw [hW7.out]
        exact (((((((HB1.out.trans (HB6.out.mono HB1.out.size)).setCell (by show w.heap.size ≤ B2; omega) _).setCell (by show w.heap.size ≤ B2; omega) _).setCell (by show w.heap.size ≤ B2; omega) _).setCell (by show w.heap.size ≤ B2; omega) _).setCell (by show w.heap.size ≤ B2; omega) _).setCell (by show w.heap.size ≤ B2; omega) _)
      have HQ := Lib.hid (show R = ({b with opns := b.opns ++ [o]}, 0) by rw [HR4.out]; rfl)
      obtain ⟨A', c', e, -, -, hcells⟩ := id HI4.out
      cases e
      have HCE := Lib.hid hcells
      have HW6 := Lib.hid (HB1.out.trans (HB6.out.mono HB1.out.size))
      have HNW := Lib.hid (show ∀ W', Below W6.heap.size W6 W' → 0 < b.opns.length → ∃ ad, oA = some ad ∧ ∀ j u, (flatF (fun i j => opnC (opnN b.opns i) j) b.opns.length 4)[j]? = some u → W'.cell? (ad.add j) = some u from fun W' hW' => flat_news (Cells.keep HCE.out fun p _ hp => (HW6.out.trans (hW'.mono HW6.out.size)).cell hp) (by decide))
      have HON := Lib.hid (show ∀ u ∈ flatF (fun i j => opnC (opnN b.opns i) j) b.opns.length 4, u.oneCell' = true from one_opns _)
      have HFL := Lib.hid (flatF_len (fun i j => opnC (opnN b.opns i) j) b.opns.length 4)
      clear hcells
      have hb6s := HB6.out.size
      obtain ⟨G, hG⟩ : ∃ G, G = W6.heap.size := ⟨_, rfl⟩
      obtain ⟨FF, hFF⟩ : ∃ l, l = flatF (fun i j => opnC (opnN b.opns i) j) b.opns.length 4 := ⟨_, rfl⟩
      have HFF := Lib.hid hFF
      rw [← hFF] at HNW HON HFL
      clear hFF
      go_upto_region 10 with fail
      go_cut [5] (fun _ W => ∃ (A6 : Option Addr) (c6 : Nat), Hid (W.heap[w.heap.size]? = some (.cells #[.slice cA b.clubs.length cc, .int .i64 b.thr, .int .u64 (b.rng : Int), .slice kA b.coms.length kc, .slice rA b.revs.length rc, .slice A6 (b.opns.length + 1) c6] 28 (0, 0))) ∧ Hid (W.ownsRow G 37 4 (.slice A6 (b.opns.length + 1) c6) (b.opns.length + 1) (FF ++ [.int .i64 cx, .int .i64 fx, .int .u64 (sx : Int), .int .u64 (sy : Int)])) ∧ Hid (Below w.heap.size w W ∧ ∀ q, q < W6.heap.size → q ≠ w.heap.size → W.heap[q]? = W6.heap[q]?))
      case first =>
        refine anyL_begin (z := 8) (S := fun W9 => Below W6.heap.size W6 W9) (by kernel_rfl) (Below.drew (Below.refl _ _)) (fun hHeld => ?_)
        refine AnyL.takeD (i := 1) (d := some 50) (v := ?_) rfl rfl (by kernel_rfl) (by kernel_rfl) (fun _ _ _ h => h) (by kernel_rfl) (by kernel_rfl) (by kernel_rfl) (Or.inl ⟨by rfl, ?_⟩) hHeld ?_
        rotate_left 1
        focus (intro w hSw; (try dsimp only at hSw); go_simp; (try with_reducible rfl))
        (repeat (first | simp only [Act.put] | simp only [List.setIfInBounds_toArray] | simp only [List.set_cons_zero] | simp only [List.set_cons_succ]))
        refine AnyL.takeD (i := 2) (d := some 51) (v := ?_) rfl rfl (by kernel_rfl) (by kernel_rfl) (fun _ _ _ h => h) (by kernel_rfl) (by kernel_rfl) (by kernel_rfl) (Or.inl ⟨by rfl, ?_⟩) hHeld ?_
        rotate_left 1
        focus (intro w hSw; (try dsimp only at hSw); obtain ⟨c0, c1, c2, c3, c4, c5, d0, d1, d2, d3⟩ := HC.out w (HB6.out.trans (Below.mono hSw HB6.out.size)); go_simp; (try with_reducible rfl))
        (repeat (first | simp only [Act.put] | simp only [List.setIfInBounds_toArray] | simp only [List.set_cons_zero] | simp only [List.set_cons_succ]))
        refine AnyL.takeD (i := 4) (d := some 53) (v := ?_) rfl rfl (by kernel_rfl) (by kernel_rfl) (fun _ _ _ h => h) (by kernel_rfl) (by kernel_rfl) (by kernel_rfl) (Or.inl ⟨by rfl, ?_⟩) hHeld ?_
        rotate_left 1
        focus (intro w hSw; (try dsimp only at hSw); obtain ⟨c0, c1, c2, c3, c4, c5, d0, d1, d2, d3⟩ := HC.out w (HB6.out.trans (Below.mono hSw HB6.out.size)); go_simp; (try with_reducible rfl))
        (repeat (first | simp only [Act.put] | simp only [List.setIfInBounds_toArray] | simp only [List.set_cons_zero] | simp only [List.set_cons_succ]))
        refine AnyL.two (i := 0) (j := 5) (by kernel_rfl) rfl rfl (fun K hK => ?_) (fun K hK => ?_)
        · skip
          go_simp
          refine nameG (w := W6.drew.alloc (.cells #[] 37)) (p := fun W => K _ W) fun wa hwa => ?_
          obtain ⟨ge, hge⟩ : ∃ g, g = W6.heap.size := ⟨_, rfl⟩
          have HBwa : Hid (Below W6.heap.size W6 wa) := Lib.hid (by rw [hwa.out]; exact Below.alloc (Below.drew (Below.refl W6.heap.size W6)) (Below.drew (Below.refl W6.heap.size W6)).size _)
          have HOwa : Hid (wa.ownsRow G 37 4 (.slice (some ⟨ge, 0, none⟩) 0 0) 0 []) := Lib.hid (own_empty (by rw [hwa.out, hge]; exact heap_alloc_new _ _) (by rw [hG, hge]; exact (Below.refl W6.heap.size W6).size))
          rw [← hge]
          clear hwa hge
          refine hK.out _ _ (fun _ => HBwa.out) (fun hHeld => ?_)
          replace hHeld := hHeld (by kernel_rfl)
          clear hK K
          (repeat (first | simp only [Act.put] | simp only [List.setIfInBounds_toArray] | simp only [List.set_cons_zero] | simp only [List.set_cons_succ]))
          refine AnyL.two (i := 3) (j := 5) (by kernel_rfl) rfl rfl (fun K hK => ?_) (fun K hK => ?_)
          · skip
            obtain ⟨ii, hii, hz0, hz1, hz2⟩ := info_parts Tryz.infoOpn
            refine step_append_cells _ rfl (.tmp 49) (.tmp 51) 26 rfl G 37 ii _ 4 32 Tryz.underlying26 hii hz0 hz1 hz2 rfl (by decide) (.slice (some ⟨ge, 0, none⟩) 0 0) 0 [] rfl HOwa.out oA b.opns.length oc FF rfl HFL.out (HNW.out _ HBwa.out) HON.out (by unfold maxLen; omega) (by omega) (by rw [hG]; exact HBwa.out.size) ?_
            intro v3 wb hown hg _
            rw [Nat.zero_add, List.nil_append] at hown
            obtain ⟨A1, c1', rfl⟩ := own_sl hown
            have HOwb := Lib.hid hown
            have HBwb : Hid (Below W6.heap.size W6 wb) := Lib.hid (HBwa.out.grown hg HBwa.out.size (fun q e => by have h9 := own_base HOwa.out q e; rw [← hG]; exact h9))
            clear hown hg hz0 hz1 hz2 hii ii
            refine hK.out _ _ (fun _ => HBwb.out) (fun hHeld => ?_)
            replace hHeld := hHeld (by kernel_rfl)
            clear hK K
            (repeat (first | simp only [Act.put] | simp only [List.setIfInBounds_toArray] | simp only [List.set_cons_zero] | simp only [List.set_cons_succ]))
            refine AnyL.one (i := 5) (by kernel_rfl) rfl (fun K hK => ?_)
            go_simp
            refine nameG (w := wb.alloc (.cells #[.int .i64 cx, .int .i64 fx, .int .u64 (sx : Int), .int .u64 (sy : Int)] 37)) (p := fun W => K _ W) fun w8 hw8 => ?_
            obtain ⟨gn, hgn⟩ : ∃ g, g = wb.heap.size := ⟨_, rfl⟩
            have HBw8 : Hid (Below W6.heap.size W6 w8) := Lib.hid (by rw [hw8.out]; exact Below.alloc HBwb.out HBwb.out.size _)
            have HNw8 : Hid (w8.heap[gn]? = some (.cells #[.int .i64 cx, .int .i64 fx, .int .u64 (sx : Int), .int .u64 (sy : Int)] 37 (0, 0))) := Lib.hid (by rw [hw8.out, hgn]; exact heap_alloc_new _ _)
            have HOw8 := Lib.hid (HOwb.out.alloc (.cells #[.int .i64 cx, .int .i64 fx, .int .u64 (sx : Int), .int .u64 (sy : Int)] 37))
            rw [← hw8.out] at HOw8
            rw [← hgn]
            clear hw8 hgn
            refine hK.out _ _ (fun _ => HBw8.out) (fun hHeld => ?_)
            replace hHeld := hHeld (by kernel_rfl)
            clear hK K
            (repeat (first | simp only [Act.put] | simp only [List.setIfInBounds_toArray] | simp only [List.set_cons_zero] | simp only [List.set_cons_succ]))
            refine AnyL.one (i := 6) (by kernel_rfl) rfl (fun K hK => ?_)
            obtain ⟨ii, hii, hz0, hz1, hz2⟩ := info_parts Tryz.infoOpn
            refine step_append_cells _ rfl (.tmp 52) (.tmp 54) 26 rfl G 37 ii _ 4 32 Tryz.underlying26 hii hz0 hz1 hz2 rfl (by decide) (.slice A1 b.opns.length c1') b.opns.length FF rfl HOw8.out (some ⟨gn, 0, none⟩) 1 1 [.int .i64 cx, .int .i64 fx, .int .u64 (sx : Int), .int .u64 (sy : Int)] rfl rfl (fun _ => ⟨_, rfl, fun j u hj => ?_⟩) (by simp [Value.oneCell']) (by unfold maxLen; omega) (by omega) (by rw [hG]; exact HBw8.out.size) ?_
            · rw [addr_add, Nat.zero_add]
              exact cell_of HNw8.out (by simpa using hj)
            intro v6 w6 hown hg _
            obtain ⟨A6, c6, rfl⟩ := own_sl hown
            have HO6 := Lib.hid hown
            have HB6' : Hid (Below W6.heap.size W6 w6) := Lib.hid (HBw8.out.grown hg HBw8.out.size (fun q e => by have h9 := own_base HOw8.out q e; rw [← hG]; exact h9))
            have k0' := K0.out w6 (HB6.out.trans (HB6'.out.mono HB6.out.size))
            clear hown hg hz0 hz1 hz2 hii ii
            refine hK.out _ _ (fun _ => HB6'.out) (fun hHeld => ?_)
            replace hHeld := hHeld (by kernel_rfl)
            clear hK K
            (repeat (first | simp only [Act.put] | simp only [List.setIfInBounds_toArray] | simp only [List.set_cons_zero] | simp only [List.set_cons_succ]))
            refine AnyL.takeD (i := 7) (d := some 56) (v := ?_) rfl rfl (by kernel_rfl) (by kernel_rfl) (fun _ _ _ h => h) (by kernel_rfl) (by kernel_rfl) (by kernel_rfl) (Or.inl ⟨by rfl, ?_⟩) hHeld ?_
            rotate_left 1
            focus (intro w hSw; (try dsimp only at hSw); go_simp; (try with_reducible rfl))
            (repeat (first | simp only [Act.put] | simp only [List.setIfInBounds_toArray] | simp only [List.set_cons_zero] | simp only [List.set_cons_succ]))
            refine AnyL.one (i := 8) (by kernel_rfl) rfl (fun K hK => ?_)
            have y3 := cell_of (j := 5) k0' rfl
            have fy3 : w6.frozen? ⟨w.heap.size, 5, none⟩ = false := by simp [World.frozen?, k0']
            go_simp
            refine nameG (w := w6.setCell ⟨w.heap.size, 5, none⟩ (.slice A6 (b.opns.length + 1) c6)) (p := fun W => K _ W) fun w5 hw5 => ?_
            have k5 : w5.heap[w.heap.size]? = some (.cells #[.slice cA b.clubs.length cc, .int .i64 b.thr, .int .u64 (b.rng : Int), .slice kA b.coms.length kc, .slice rA b.revs.length rc, .slice A6 (b.opns.length + 1) c6] 28 (0, 0)) := by
              have hx := Blk_set k0' (j := 5) (.slice A6 (b.opns.length + 1) c6)
              rw [hw5.out, hx]; rfl
            have hk5 : ∀ q, q ≠ w.heap.size → w5.heap[q]? = w6.heap[q]? := fun q hq => by rw [hw5.out]; exact Below.heap_setCell _ _ _ _ hq
            have hwG : w.heap.size < W6.heap.size := by have := HB6.out.size; omega
            have K5 := Lib.hid k5
            have HO5 := Lib.hid (own_kept HO6.out (W := w5) (fun q hq _ => hk5 q (by omega)))
            have HK5 := Lib.hid (show Below w.heap.size w w5 ∧ ∀ q, q < W6.heap.size → q ≠ w.heap.size → w5.heap[q]? = W6.heap[q]? from ⟨by rw [hw5.out]; exact (HW6.out.trans (HB6'.out.mono HW6.out.size)).setCell (Nat.le_refl _) _, fun q h1 h2 => (hk5 q h2).trans (HB6'.out.block q h1)⟩)
            clear hw5 k5 hk5 hwG k0' y3 fy3
            refine hK.out _ _ (fun h => nomatch (show true = false from h)) (fun _ => ?_)
            clear hK K
            (try dsimp only)
            refine AnyL.done (by kernel_rfl) ?_
            go_wp2_with fail
            go_meet
            case rel => exact ⟨A6, c6, K5, HO5, HK5⟩
          · skip
            go_simp
            refine nameG (w := wa.alloc (.cells #[.int .i64 cx, .int .i64 fx, .int .u64 (sx : Int), .int .u64 (sy : Int)] 37)) (p := fun W => K _ W) fun wb hwb => ?_
            obtain ⟨gn, hgn⟩ : ∃ g, g = wa.heap.size := ⟨_, rfl⟩
            have HBwb : Hid (Below W6.heap.size W6 wb) := Lib.hid (by rw [hwb.out]; exact Below.alloc HBwa.out HBwa.out.size _)
            have HNwb : Hid (wb.heap[gn]? = some (.cells #[.int .i64 cx, .int .i64 fx, .int .u64 (sx : Int), .int .u64 (sy : Int)] 37 (0, 0))) := Lib.hid (by rw [hwb.out, hgn]; exact heap_alloc_new _ _)
            have HOwb := Lib.hid (HOwa.out.alloc (.cells #[.int .i64 cx, .int .i64 fx, .int .u64 (sx : Int), .int .u64 (sy : Int)] 37))
            rw [← hwb.out] at HOwb
            have HGE := Lib.hid (show gn ≠ ge by have := (own_lt HOwa.out ge rfl).2; omega)
            rw [← hgn]
            clear hwb hgn
            refine hK.out _ _ (fun _ => HBwb.out) (fun hHeld => ?_)
            replace hHeld := hHeld (by kernel_rfl)
            clear hK K
            (repeat (first | simp only [Act.put] | simp only [List.setIfInBounds_toArray] | simp only [List.set_cons_zero] | simp only [List.set_cons_succ]))
            refine AnyL.one (i := 3) (by kernel_rfl) rfl (fun K hK => ?_)
            obtain ⟨ii, hii, hz0, hz1, hz2⟩ := info_parts Tryz.infoOpn
            refine step_append_cells _ rfl (.tmp 49) (.tmp 51) 26 rfl G 37 ii _ 4 32 Tryz.underlying26 hii hz0 hz1 hz2 rfl (by decide) (.slice (some ⟨ge, 0, none⟩) 0 0) 0 [] rfl HOwb.out oA b.opns.length oc FF rfl HFL.out (HNW.out _ HBwb.out) HON.out (by unfold maxLen; omega) (by omega) (by rw [hG]; exact HBwb.out.size) ?_
            intro v3 w8 hown hg _
            rw [Nat.zero_add, List.nil_append] at hown
            obtain ⟨A1, c1', rfl⟩ := own_sl hown
            have HOw8 := Lib.hid hown
            have HBw8 : Hid (Below W6.heap.size W6 w8) := Lib.hid (HBwb.out.grown hg HBwb.out.size (fun q e => by have h9 := own_base HOwb.out q e; rw [← hG]; exact h9))
            have HNw8 := Lib.hid ((hg.block gn (lt_heap HNwb.out) (fun e => HGE.out (by simpa [Value.ownBlock] using e))).trans HNwb.out)
            clear hown hg hz0 hz1 hz2 hii ii
            refine hK.out _ _ (fun _ => HBw8.out) (fun hHeld => ?_)
            replace hHeld := hHeld (by kernel_rfl)
            clear hK K
            (repeat (first | simp only [Act.put] | simp only [List.setIfInBounds_toArray] | simp only [List.set_cons_zero] | simp only [List.set_cons_succ]))
            refine AnyL.one (i := 6) (by kernel_rfl) rfl (fun K hK => ?_)
            obtain ⟨ii, hii, hz0, hz1, hz2⟩ := info_parts Tryz.infoOpn
            refine step_append_cells _ rfl (.tmp 52) (.tmp 54) 26 rfl G 37 ii _ 4 32 Tryz.underlying26 hii hz0 hz1 hz2 rfl (by decide) (.slice A1 b.opns.length c1') b.opns.length FF rfl HOw8.out (some ⟨gn, 0, none⟩) 1 1 [.int .i64 cx, .int .i64 fx, .int .u64 (sx : Int), .int .u64 (sy : Int)] rfl rfl (fun _ => ⟨_, rfl, fun j u hj => ?_⟩) (by simp [Value.oneCell']) (by unfold maxLen; omega) (by omega) (by rw [hG]; exact HBw8.out.size) ?_
            · rw [addr_add, Nat.zero_add]
              exact cell_of HNw8.out (by simpa using hj)
            intro v6 w6 hown hg _
            obtain ⟨A6, c6, rfl⟩ := own_sl hown
            have HO6 := Lib.hid hown
            have HB6' : Hid (Below W6.heap.size W6 w6) := Lib.hid (HBw8.out.grown hg HBw8.out.size (fun q e => by have h9 := own_base HOw8.out q e; rw [← hG]; exact h9))
            have k0' := K0.out w6 (HB6.out.trans (HB6'.out.mono HB6.out.size))
            clear hown hg hz0 hz1 hz2 hii ii
            refine hK.out _ _ (fun _ => HB6'.out) (fun hHeld => ?_)
            replace hHeld := hHeld (by kernel_rfl)
            clear hK K
            (repeat (first | simp only [Act.put] | simp only [List.setIfInBounds_toArray] | simp only [List.set_cons_zero] | simp only [List.set_cons_succ]))
            refine AnyL.takeD (i := 7) (d := some 56) (v := ?_) rfl rfl (by kernel_rfl) (by kernel_rfl) (fun _ _ _ h => h) (by kernel_rfl) (by kernel_rfl) (by kernel_rfl) (Or.inl ⟨by rfl, ?_⟩) hHeld ?_
            rotate_left 1
            focus (intro w hSw; (try dsimp only at hSw); go_simp; (try with_reducible rfl))
            (repeat (first | simp only [Act.put] | simp only [List.setIfInBounds_toArray] | simp only [List.set_cons_zero] | simp only [List.set_cons_succ]))
            refine AnyL.one (i := 8) (by kernel_rfl) rfl (fun K hK => ?_)
            have y3 := cell_of (j := 5) k0' rfl
            have fy3 : w6.frozen? ⟨w.heap.size, 5, none⟩ = false := by simp [World.frozen?, k0']
            go_simp
            refine nameG (w := w6.setCell ⟨w.heap.size, 5, none⟩ (.slice A6 (b.opns.length + 1) c6)) (p := fun W => K _ W) fun w5 hw5 => ?_
            have k5 : w5.heap[w.heap.size]? = some (.cells #[.slice cA b.clubs.length cc, .int .i64 b.thr, .int .u64 (b.rng : Int), .slice kA b.coms.length kc, .slice rA b.revs.length rc, .slice A6 (b.opns.length + 1) c6] 28 (0, 0)) := by
              have hx := Blk_set k0' (j := 5) (.slice A6 (b.opns.length + 1) c6)
              rw [hw5.out, hx]; rfl
            have hk5 : ∀ q, q ≠ w.heap.size → w5.heap[q]? = w6.heap[q]? := fun q hq => by rw [hw5.out]; exact Below.heap_setCell _ _ _ _ hq
            have hwG : w.heap.size < W6.heap.size := by have := HB6.out.size; omega
            have K5 := Lib.hid k5
            have HO5 := Lib.hid (own_kept HO6.out (W := w5) (fun q hq _ => hk5 q (by omega)))
            have HK5 := Lib.hid (show Below w.heap.size w w5 ∧ ∀ q, q < W6.heap.size → q ≠ w.heap.size → w5.heap[q]? = W6.heap[q]? from ⟨by rw [hw5.out]; exact (HW6.out.trans (HB6'.out.mono HW6.out.size)).setCell (Nat.le_refl _) _, fun q h1 h2 => (hk5 q h2).trans (HB6'.out.block q h1)⟩)
            clear hw5 k5 hk5 hwG k0' y3 fy3
            refine hK.out _ _ (fun h => nomatch (show true = false from h)) (fun _ => ?_)
            clear hK K
            (try dsimp only)
            refine AnyL.done (by kernel_rfl) ?_
            go_wp2_with fail
            go_meet
            case rel => exact ⟨A6, c6, K5, HO5, HK5⟩
        · skip
          go_simp
          refine nameG (w := W6.drew.alloc (.cells #[.int .i64 cx, .int .i64 fx, .int .u64 (sx : Int), .int .u64 (sy : Int)] 37)) (p := fun W => K _ W) fun wa hwa => ?_
          obtain ⟨gn, hgn⟩ : ∃ g, g = W6.heap.size := ⟨_, rfl⟩
          have HBwa : Hid (Below W6.heap.size W6 wa) := Lib.hid (by rw [hwa.out]; exact Below.alloc (Below.drew (Below.refl W6.heap.size W6)) (Below.drew (Below.refl W6.heap.size W6)).size _)
          have HNwa : Hid (wa.heap[gn]? = some (.cells #[.int .i64 cx, .int .i64 fx, .int .u64 (sx : Int), .int .u64 (sy : Int)] 37 (0, 0))) := Lib.hid (by rw [hwa.out, hgn]; exact heap_alloc_new _ _)
          rw [← hgn]
          clear hwa hgn
          refine hK.out _ _ (fun _ => HBwa.out) (fun hHeld => ?_)
          replace hHeld := hHeld (by kernel_rfl)
          clear hK K
          (repeat (first | simp only [Act.put] | simp only [List.setIfInBounds_toArray] | simp only [List.set_cons_zero] | simp only [List.set_cons_succ]))
          refine AnyL.one (i := 0) (by kernel_rfl) rfl (fun K hK => ?_)
          go_simp
          refine nameG (w := wa.alloc (.cells #[] 37)) (p := fun W => K _ W) fun wb hwb => ?_
          obtain ⟨ge, hge⟩ : ∃ g, g = wa.heap.size := ⟨_, rfl⟩
          have HBwb : Hid (Below W6.heap.size W6 wb) := Lib.hid (by rw [hwb.out]; exact Below.alloc HBwa.out HBwa.out.size _)
          have HOwb : Hid (wb.ownsRow G 37 4 (.slice (some ⟨ge, 0, none⟩) 0 0) 0 []) := Lib.hid (own_empty (by rw [hwb.out, hge]; exact heap_alloc_new _ _) (by rw [hG, hge]; exact HBwa.out.size))
          have HNwb := Lib.hid ((Below.heap_alloc _ (.cells #[] 37) _ (lt_heap HNwa.out)).trans HNwa.out)
          rw [← hwb.out] at HNwb
          have HGE := Lib.hid (show gn ≠ ge by have := lt_heap HNwa.out; omega)
          rw [← hge]
          clear hwb hge
          refine hK.out _ _ (fun _ => HBwb.out) (fun hHeld => ?_)
          replace hHeld := hHeld (by kernel_rfl)
          clear hK K
          (repeat (first | simp only [Act.put] | simp only [List.setIfInBounds_toArray] | simp only [List.set_cons_zero] | simp only [List.set_cons_succ]))
          refine AnyL.one (i := 3) (by kernel_rfl) rfl (fun K hK => ?_)
          obtain ⟨ii, hii, hz0, hz1, hz2⟩ := info_parts Tryz.infoOpn
          refine step_append_cells _ rfl (.tmp 49) (.tmp 51) 26 rfl G 37 ii _ 4 32 Tryz.underlying26 hii hz0 hz1 hz2 rfl (by decide) (.slice (some ⟨ge, 0, none⟩) 0 0) 0 [] rfl HOwb.out oA b.opns.length oc FF rfl HFL.out (HNW.out _ HBwb.out) HON.out (by unfold maxLen; omega) (by omega) (by rw [hG]; exact HBwb.out.size) ?_
          intro v3 w8 hown hg _
          rw [Nat.zero_add, List.nil_append] at hown
          obtain ⟨A1, c1', rfl⟩ := own_sl hown
          have HOw8 := Lib.hid hown
          have HBw8 : Hid (Below W6.heap.size W6 w8) := Lib.hid (HBwb.out.grown hg HBwb.out.size (fun q e => by have h9 := own_base HOwb.out q e; rw [← hG]; exact h9))
          have HNw8 := Lib.hid ((hg.block gn (lt_heap HNwb.out) (fun e => HGE.out (by simpa [Value.ownBlock] using e))).trans HNwb.out)
          clear hown hg hz0 hz1 hz2 hii ii
          refine hK.out _ _ (fun _ => HBw8.out) (fun hHeld => ?_)
          replace hHeld := hHeld (by kernel_rfl)
          clear hK K
          (repeat (first | simp only [Act.put] | simp only [List.setIfInBounds_toArray] | simp only [List.set_cons_zero] | simp only [List.set_cons_succ]))
          refine AnyL.one (i := 6) (by kernel_rfl) rfl (fun K hK => ?_)
          obtain ⟨ii, hii, hz0, hz1, hz2⟩ := info_parts Tryz.infoOpn
          refine step_append_cells _ rfl (.tmp 52) (.tmp 54) 26 rfl G 37 ii _ 4 32 Tryz.underlying26 hii hz0 hz1 hz2 rfl (by decide) (.slice A1 b.opns.length c1') b.opns.length FF rfl HOw8.out (some ⟨gn, 0, none⟩) 1 1 [.int .i64 cx, .int .i64 fx, .int .u64 (sx : Int), .int .u64 (sy : Int)] rfl rfl (fun _ => ⟨_, rfl, fun j u hj => ?_⟩) (by simp [Value.oneCell']) (by unfold maxLen; omega) (by omega) (by rw [hG]; exact HBw8.out.size) ?_
          · rw [addr_add, Nat.zero_add]
            exact cell_of HNw8.out (by simpa using hj)
          intro v6 w6 hown hg _
          obtain ⟨A6, c6, rfl⟩ := own_sl hown
          have HO6 := Lib.hid hown
          have HB6' : Hid (Below W6.heap.size W6 w6) := Lib.hid (HBw8.out.grown hg HBw8.out.size (fun q e => by have h9 := own_base HOw8.out q e; rw [← hG]; exact h9))
          have k0' := K0.out w6 (HB6.out.trans (HB6'.out.mono HB6.out.size))
          clear hown hg hz0 hz1 hz2 hii ii
          refine hK.out _ _ (fun _ => HB6'.out) (fun hHeld => ?_)
          replace hHeld := hHeld (by kernel_rfl)
          clear hK K
          (repeat (first | simp only [Act.put] | simp only [List.setIfInBounds_toArray] | simp only [List.set_cons_zero] | simp only [List.set_cons_succ]))
          refine AnyL.takeD (i := 7) (d := some 56) (v := ?_) rfl rfl (by kernel_rfl) (by kernel_rfl) (fun _ _ _ h => h) (by kernel_rfl) (by kernel_rfl) (by kernel_rfl) (Or.inl ⟨by rfl, ?_⟩) hHeld ?_
          rotate_left 1
          focus (intro w hSw; (try dsimp only at hSw); go_simp; (try with_reducible rfl))
          (repeat (first | simp only [Act.put] | simp only [List.setIfInBounds_toArray] | simp only [List.set_cons_zero] | simp only [List.set_cons_succ]))
          refine AnyL.one (i := 8) (by kernel_rfl) rfl (fun K hK => ?_)
          have y3 := cell_of (j := 5) k0' rfl
          have fy3 : w6.frozen? ⟨w.heap.size, 5, none⟩ = false := by simp [World.frozen?, k0']
          go_simp
          refine nameG (w := w6.setCell ⟨w.heap.size, 5, none⟩ (.slice A6 (b.opns.length + 1) c6)) (p := fun W => K _ W) fun w5 hw5 => ?_
          have k5 : w5.heap[w.heap.size]? = some (.cells #[.slice cA b.clubs.length cc, .int .i64 b.thr, .int .u64 (b.rng : Int), .slice kA b.coms.length kc, .slice rA b.revs.length rc, .slice A6 (b.opns.length + 1) c6] 28 (0, 0)) := by
            have hx := Blk_set k0' (j := 5) (.slice A6 (b.opns.length + 1) c6)
            rw [hw5.out, hx]; rfl
          have hk5 : ∀ q, q ≠ w.heap.size → w5.heap[q]? = w6.heap[q]? := fun q hq => by rw [hw5.out]; exact Below.heap_setCell _ _ _ _ hq
          have hwG : w.heap.size < W6.heap.size := by have := HB6.out.size; omega
          have K5 := Lib.hid k5
          have HO5 := Lib.hid (own_kept HO6.out (W := w5) (fun q hq _ => hk5 q (by omega)))
          have HK5 := Lib.hid (show Below w.heap.size w w5 ∧ ∀ q, q < W6.heap.size → q ≠ w.heap.size → w5.heap[q]? = W6.heap[q]? from ⟨by rw [hw5.out]; exact (HW6.out.trans (HB6'.out.mono HW6.out.size)).setCell (Nat.le_refl _) _, fun q h1 h2 => (hk5 q h2).trans (HB6'.out.block q h1)⟩)
          clear hw5 k5 hk5 hwG k0' y3 fy3
          refine hK.out _ _ (fun h => nomatch (show true = false from h)) (fun _ => ?_)
          clear hK K
          (try dsimp only)
          refine AnyL.done (by kernel_rfl) ?_
          go_wp2_with fail
          go_meet
          case rel => exact ⟨A6, c6, K5, HO5, HK5⟩
      case rest =>
        obtain ⟨A6, c6, K5, HO5, HK5⟩ := hcut
        have HKZ := Lib.hid ((HK5.out.2 B2 (by omega) (by omega)).trans (KZ.out W6 HB6.out))
        have HBw7 := Lib.hid HK5.out.1
        have r0 := cell_of (j := 0) K5.out rfl
        have r1 := cell_of (j := 1) K5.out rfl
        have r2 := cell_of (j := 2) K5.out rfl
        have r3 := cell_of (j := 3) K5.out rfl
        have r4 := cell_of (j := 4) K5.out rfl
        have r5 := cell_of (j := 5) K5.out rfl
        have m0 := cell_of (j := 0) HKZ.out rfl
        have fm0 : wc.frozen? ⟨B2, 0, none⟩ = false := by simp [World.frozen?, HKZ.out]
        have m1 := cell_of (j := 1) HKZ.out rfl
        have fm1 : wc.frozen? ⟨B2, 1, none⟩ = false := by simp [World.frozen?, HKZ.out]
        have m2 := cell_of (j := 2) HKZ.out rfl
        have fm2 : wc.frozen? ⟨B2, 2, none⟩ = false := by simp [World.frozen?, HKZ.out]
        have m3 := cell_of (j := 3) HKZ.out rfl
        have fm3 : wc.frozen? ⟨B2, 3, none⟩ = false := by simp [World.frozen?, HKZ.out]
        have m4 := cell_of (j := 4) HKZ.out rfl
        have fm4 : wc.frozen? ⟨B2, 4, none⟩ = false := by simp [World.frozen?, HKZ.out]
        have m5 := cell_of (j := 5) HKZ.out rfl
        have fm5 : wc.frozen? ⟨B2, 5, none⟩ = false := by simp [World.frozen?, HKZ.out]
        go_wp2_with fail
        refine nameG (p := fun W => bodyPost Tryz.prog Tryz.f17 _ Exit.ret _ W) fun W7 hW7 => ?_
        have hk7 : W7.heap[B2]? = some (.cells #[.slice cA b.clubs.length cc, .int .i64 b.thr, .int .u64 (b.rng : Int), .slice kA b.coms.length kc, .slice rA b.revs.length rc, .slice A6 (b.opns.length + 1) c6] 28 (0, 0)) := by
          have hx := (Blk_set (Blk_set (Blk_set (Blk_set (Blk_set (Blk_set HKZ.out (j := 0) (.slice cA b.clubs.length cc)) (j := 1) (.int .i64 b.thr)) (j := 2) (.int .u64 (b.rng : Int))) (j := 3) (.slice kA b.coms.length kc)) (j := 4) (.slice rA b.revs.length rc)) (j := 5) (.slice A6 (b.opns.length + 1) c6))
          rw [hW7.out, hx]; rfl
        have j0 := cell_of (j := 0) hk7 rfl
        have j1 := cell_of (j := 1) hk7 rfl
        have j2 := cell_of (j := 2) hk7 rfl
        have j3 := cell_of (j := 3) hk7 rfl
        have j4 := cell_of (j := 4) hk7 rfl
        have j5 := cell_of (j := 5) hk7 rfl
        refine bodyPost_ret (v := .tuple #[.agg #[.slice cA b.clubs.length cc, .int .i64 b.thr, .int .u64 (b.rng : Int), .slice kA b.coms.length kc, .slice rA b.revs.length rc, .slice A6 (b.opns.length + 1) c6], .int .i64 0]) (by simp [results, Tryz.results17, go_sem, j0, j1, j2, j3, j4, j5]) rfl ?_
        have hb7 : Below w.heap.size w W7 := by rw [hW7.out]; exact ((((((HBw7.out.setCell (by show w.heap.size ≤ B2; omega) _).setCell (by show w.heap.size ≤ B2; omega) _).setCell (by show w.heap.size ≤ B2; omega) _).setCell (by show w.heap.size ≤ B2; omega) _).setCell (by show w.heap.size ≤ B2; omega) _).setCell (by show w.heap.size ≤ B2; omega) _)
        have hW6w : w.heap.size < W6.heap.size := by omega
        have hB26 : B2 < W6.heap.size := by omega
        have ho7 : W7.ownsRow G 37 4 (.slice A6 (b.opns.length + 1) c6) (b.opns.length + 1) (flatF (fun i j => opnC (opnN b.opns i) j) b.opns.length 4 ++ [.int .i64 cx, .int .i64 fx, .int .u64 (sx : Int), .int .u64 (sy : Int)]) := by
          rw [← HFF.out]
          refine own_kept HO5.out (fun q hq _ => ?_)
          rw [hW7.out]
          repeat rw [Below.heap_setCell _ _ _ _ (show q ≠ B2 by omega)]
        refine ⟨_, by rw [HQ.out], ?_, hb7⟩
        rw [HQ.out]
        rw [HX.out.1, HX.out.2.1, HX.out.2.2.1, HX.out.2.2.2] at ho7
        have hx3 : ∀ q, G ≤ q → (fun q => M q ∨ w.heap.size ≤ q) q := fun q h => Or.inr (by omega)
        have hrow := opns_snoc hx3 ho7
        have hcl : IsInts W7 (fun q => M q ∨ w.heap.size ≤ q) (.slice cA b.clubs.length cc) b.clubs := IsSl.mono (IsSl.below HI1.out hb7) (fun q _ h => Or.inl h) (by omega)
        have hcm : IsComs W7 (fun q => M q ∨ w.heap.size ≤ q) (.slice kA b.coms.length kc) b.coms := (HI2.out.below hb7).mono (fun q _ h => Or.inl h)
        have hrv : IsRevs W7 (fun q => M q ∨ w.heap.size ≤ q) (.slice rA b.revs.length rc) b.revs := IsSl.mono (IsSl.below HI3.out hb7) (fun q _ h => Or.inl h) (by omega)
        exact ⟨.slice cA b.clubs.length cc, .slice kA b.coms.length kc, .slice rA b.revs.length rc, .slice A6 (b.opns.length + 1) c6, rfl, hcl, hcm, hrv, hrow⟩
end Go.Proofs.YtgaanndidcdbpaaGreat
