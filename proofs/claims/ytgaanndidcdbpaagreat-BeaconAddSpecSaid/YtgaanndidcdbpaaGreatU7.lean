/- The reference's Commit. -/
import Derived.Test.YtgaanndidcdbpaaGreatU6
import Derived.Test.YtgaanndidcdbpaaGreatV2
import Derived.Deep.DeepCutAuto
import Derived.BigQuiet
namespace Go.Proofs.YtgaanndidcdbpaaGreat
open Go.RowKit Go.Shelf

set_option maxRecDepth 100000 in
set_option maxHeartbeats 16000000 in
theorem rCommit_any (w : World) (M M' : Nat → Prop) (v u : Value) (b : BeaD) (c : ComD) (h : IsBea w M v b) (hs : SmallB b) (h' : IsCom w M' u c) (hl : c.checks.length ≤ 140737488355328) : Calls Tryz.prog 13 #[v, u] w (BeaE w (fun q => M q ∨ M' q ∨ w.heap.size ≤ q) (commitD b c)) := by
  obtain ⟨cA, cc, kA, kc, rA, rc, oA, oc, rfl, i1, i2, i3, i4⟩ := h.parts
  have HI1 := Lib.hid i1
  have HI2 := Lib.hid i2
  have HI3 := Lib.hid i3
  have HI4 := Lib.hid i4
  have HBE := Lib.hid h
  have HS := Lib.hid hs
  obtain ⟨uv, rfl, hu⟩ := h'
  obtain ⟨uA, uc, rfl, -⟩ := id hu
  have HU := Lib.hid hu
  obtain ⟨R, hR⟩ : ∃ R, R = commitD b c := ⟨_, rfl⟩
  have HR := Lib.hid (hR.trans (commitD_ref b c))
  rw [← hR]
  obtain ⟨ck, hck⟩ : ∃ z, z = chkD b := ⟨_, rfl⟩
  obtain ⟨fz, hfz⟩ : ∃ z, z = comB b c := ⟨_, rfl⟩
  obtain ⟨hz, hhz⟩ : ∃ z, z = decide (0 ≤ comI b c.club) := ⟨_, rfl⟩
  have D3 := Lib.hid (fun (W : World) (hW : Below w.heap.size w W) => Lib.hid (rcfits_any W M M' _ _ b c (HBE.out.below hW) hs ⟨_, rfl, IsSl.below hu hW⟩ hl))
  have D2 := Lib.hid (fun (W : World) (hW : Below w.heap.size w W) => Lib.hid (rcommit_any W M _ b (HBE.out.below hW) hs.co c.club))
  rw [← hhz] at D2
  rw [← hck, ← hhz, ← hfz] at HR
  rw [← hfz] at D3
  have D1 := Lib.hid (fun (W : World) (hW : Below w.heap.size w W) => Lib.hid (rcheck_any W M _ b (HBE.out.below hW) hs))
  rw [← hck] at D1
  obtain ⟨cx, hcx⟩ : ∃ x, x = c.club := ⟨_, rfl⟩
  obtain ⟨ul, hul⟩ : ∃ x, x = c.checks.length := ⟨_, rfl⟩
  have HX := Lib.hid (And.intro hcx hul)
  rw [← hcx, ← hul]
  (try rw [← hcx] at D2)
  (try rw [← hul] at D2)
  (try rw [← hcx] at D3)
  (try rw [← hul] at D3)
  rw [← hul] at HU hl
  have hmb : b.coms.length ≤ 1000 := hs.co
  have hrb : b.revs.length ≤ 1000 := hs.re
  have hob : b.opns.length ≤ 1000 := hs.op
  clear h hs i1 i2 i3 i4 hR hck hfz hhz hu hcx hul
  go_enter Tryz.func13, Tryz.ntmps13
  go_upto_region 1 with fail
  refine nameC fun W1 hW1 => ?_
  have hb1 : Below w.heap.size w W1 := by rw [hW1.out]; exact (((Below.refl _ _).alloc (Nat.le_refl _) _).alloc (by simp) _).alloc (by simp; omega) _
  have k0 : W1.heap[w.heap.size]? = some (.cells #[.slice cA b.clubs.length cc, .int .i64 b.thr, .int .u64 (b.rng : Int), .slice kA b.coms.length kc, .slice rA b.revs.length rc, .slice oA b.opns.length oc] 28 (0, 0)) := by rw [hW1.out]; simp only [heap_alloc_if, World.size_alloc]; rw [if_neg (by omega)]; rw [if_neg (by omega)]; rw [if_pos trivial]
  have k1 : W1.heap[w.heap.size + 1]? = some (.cells #[.int .i64 cx, .slice uA ul uc] 31 (0, 0)) := by rw [hW1.out]; simp only [heap_alloc_if, World.size_alloc]; rw [if_neg (by omega)]; rw [if_pos trivial]
  have k2 : W1.heap[w.heap.size + 1 + 1]? = some (.cells #[.slice none 0 0, .int .i64 0, .int .u64 0, .slice none 0 0, .slice none 0 0, .slice none 0 0] 28 (0, 0)) := by rw [hW1.out]; simp only [heap_alloc_if, World.size_alloc]; rw [if_pos trivial]
  obtain ⟨B2, hB2⟩ : ∃ B, B = w.heap.size + 1 + 1 := ⟨_, rfl⟩
  rw [← hB2] at k2 ⊢
  obtain ⟨B1, hB1⟩ : ∃ B, B = w.heap.size + 1 := ⟨_, rfl⟩
  rw [← hB1] at k1 ⊢
  have hne1 : w.heap.size < B1 := by omega
  have hne2 : B1 < B2 := by omega
  have HC := Lib.hid (show ∀ W', Below W1.heap.size W1 W' → (W'.cell? ⟨w.heap.size, 0, none⟩ = some (.slice cA b.clubs.length cc) ∧ W'.cell? ⟨w.heap.size, 1, none⟩ = some (.int .i64 b.thr) ∧ W'.cell? ⟨w.heap.size, 2, none⟩ = some (.int .u64 (b.rng : Int)) ∧ W'.cell? ⟨w.heap.size, 3, none⟩ = some (.slice kA b.coms.length kc) ∧ W'.cell? ⟨w.heap.size, 4, none⟩ = some (.slice rA b.revs.length rc) ∧ W'.cell? ⟨w.heap.size, 5, none⟩ = some (.slice oA b.opns.length oc) ∧ W'.cell? ⟨B1, 0, none⟩ = some (.int .i64 cx) ∧ W'.cell? ⟨B1, 1, none⟩ = some (.slice uA ul uc)) from fun W' h => by
    have e0 := (h.block _ (lt_heap k0)).trans k0
    have e1 := (h.block _ (lt_heap k1)).trans k1
    exact ⟨cell_of e0 rfl, cell_of e0 rfl, cell_of e0 rfl, cell_of e0 rfl, cell_of e0 rfl, cell_of e0 rfl, cell_of e1 rfl, cell_of e1 rfl⟩)
  have K0 := Lib.hid (show ∀ W', Below W1.heap.size W1 W' → W'.heap[w.heap.size]? = some (.cells #[.slice cA b.clubs.length cc, .int .i64 b.thr, .int .u64 (b.rng : Int), .slice kA b.coms.length kc, .slice rA b.revs.length rc, .slice oA b.opns.length oc] 28 (0, 0)) from fun W' h => (h.block _ (lt_heap k0)).trans k0)
  have KZ := Lib.hid (show ∀ W', Below W1.heap.size W1 W' → W'.heap[B2]? = some (.cells #[.slice none 0 0, .int .i64 0, .int .u64 0, .slice none 0 0, .slice none 0 0, .slice none 0 0] 28 (0, 0)) from fun W' h => (h.block _ (lt_heap k2)).trans k2)
  have hsz1 := lt_heap k2
  have HB1 := Lib.hid hb1
  clear hW1 hb1 k0 k1 k2 hB1 hB2
  have HB0 : Hid (Below W1.heap.size W1 W1) := Lib.hid (Below.refl _ _)
  obtain ⟨c0, c1, c2, c3, c4, c5, d0, d1⟩ := HC.out _ HB0.out
  go_wp2_with fail
  refine (D2.out _ HB1.out).out.mono ?_
  rintro e W2 ⟨yA, yc, rfl, -, hb⟩
  have HB2 := Lib.hid hb
  obtain ⟨x, hx⟩ : ∃ x, x = fstC b cx := ⟨_, rfl⟩
  rw [← hx]
  obtain ⟨xl, hxl⟩ : ∃ n, n = x.checks.length := ⟨_, rfl⟩
  rw [← hxl]
  clear hb hx hxl
  clear c0 c1 c2 c3 c4 c5 d0 d1
  go_upto_region 2 with fail
  refine nameC fun W3 hW3 => ?_
  have hb3 : Below W2.heap.size W2 W3 := by rw [hW3.out]; exact (Below.refl _ _).alloc (Nat.le_refl _) _
  have HB3 := Lib.hid (HB2.out.trans (hb3.mono HB2.out.size))
  clear hW3 hb3 HB2
  obtain ⟨c0, c1, c2, c3, c4, c5, d0, d1⟩ := HC.out _ HB3.out
  go_wp2_with fail
  refine (D1.out _ (HB1.out.trans (HB3.out.mono HB1.out.size))).out.mono ?_
  rintro e W4 ⟨rfl, hb⟩
  have HB4 : Hid (Below W1.heap.size W1 W4) := Lib.hid (HB3.out.trans (hb.mono HB3.out.size))
  clear hb
  clear c0 c1 c2 c3 c4 c5 d0 d1
  obtain ⟨c0, c1, c2, c3, c4, c5, d0, d1⟩ := HC.out _ HB4.out
  by_cases t0 : ck = 0
  case neg =>
    have b0 : (ck != 0) = true := by rw [bne_iff_ne]; exact t0
    have HQ := Lib.hid (show R = (bea0, 240) by rw [HR.out, if_pos t0])
    clear t0
    clear c0 c1 c2 c3 c4 c5 d0 d1
    obtain ⟨c0, c1, c2, c3, c4, c5, d0, d1⟩ := HC.out _ HB4.out
    have kz := KZ.out W4 HB4.out
    have m0 := cell_of (j := 0) kz rfl
    have fm0 : W4.frozen? ⟨B2, 0, none⟩ = false := by simp [World.frozen?, kz]
    have m1 := cell_of (j := 1) kz rfl
    have fm1 : W4.frozen? ⟨B2, 1, none⟩ = false := by simp [World.frozen?, kz]
    have m2 := cell_of (j := 2) kz rfl
    have fm2 : W4.frozen? ⟨B2, 2, none⟩ = false := by simp [World.frozen?, kz]
    have m3 := cell_of (j := 3) kz rfl
    have fm3 : W4.frozen? ⟨B2, 3, none⟩ = false := by simp [World.frozen?, kz]
    have m4 := cell_of (j := 4) kz rfl
    have fm4 : W4.frozen? ⟨B2, 4, none⟩ = false := by simp [World.frozen?, kz]
    have m5 := cell_of (j := 5) kz rfl
    have fm5 : W4.frozen? ⟨B2, 5, none⟩ = false := by simp [World.frozen?, kz]
    go_wp2_with fail
    refine nameG (p := fun W => bodyPost Tryz.prog Tryz.f13 _ Exit.ret _ W) fun W7 hW7 => ?_
    have hk7 : W7.heap[B2]? = some (.cells #[.slice none 0 0, .int .i64 0, .int .u64 0, .slice none 0 0, .slice none 0 0, .slice none 0 0] 28 (0, 0)) := by
      have hx := (Blk_set (Blk_set (Blk_set (Blk_set (Blk_set (Blk_set kz (j := 0) (.slice none 0 0)) (j := 1) (.int .i64 0)) (j := 2) (.int .u64 0)) (j := 3) (.slice none 0 0)) (j := 4) (.slice none 0 0)) (j := 5) (.slice none 0 0))
      rw [hW7.out, hx]; rfl
    have j0 := cell_of (j := 0) hk7 rfl
    have j1 := cell_of (j := 1) hk7 rfl
    have j2 := cell_of (j := 2) hk7 rfl
    have j3 := cell_of (j := 3) hk7 rfl
    have j4 := cell_of (j := 4) hk7 rfl
    have j5 := cell_of (j := 5) hk7 rfl
    refine bodyPost_ret (v := .tuple #[.agg #[.slice none 0 0, .int .i64 0, .int .u64 0, .slice none 0 0, .slice none 0 0, .slice none 0 0], .int .i64 240]) (by simp [results, Tryz.results13, go_sem, j0, j1, j2, j3, j4, j5]) rfl ?_
    refine ⟨_, by rw [HQ.out], by rw [HQ.out]; exact IsBea.zero, ?_⟩
    rw [hW7.out]
    exact (((((((HB1.out.trans (HB4.out.mono HB1.out.size)).setCell (by show w.heap.size ≤ B2; omega) _).setCell (by show w.heap.size ≤ B2; omega) _).setCell (by show w.heap.size ≤ B2; omega) _).setCell (by show w.heap.size ≤ B2; omega) _).setCell (by show w.heap.size ≤ B2; omega) _).setCell (by show w.heap.size ≤ B2; omega) _)
  have b0 : (ck != 0) = false := by rw [bne_eq_false_iff_eq]; exact t0
  have HR2 := Lib.hid (HR.out.trans (if_neg (fun h => h t0)))
  clear t0
  cases hz
  case true =>
    have HQ := Lib.hid (show R = (bea0, 240) by rw [HR2.out]; rfl)
    have kz := KZ.out W4 HB4.out
    have m0 := cell_of (j := 0) kz rfl
    have fm0 : W4.frozen? ⟨B2, 0, none⟩ = false := by simp [World.frozen?, kz]
    have m1 := cell_of (j := 1) kz rfl
    have fm1 : W4.frozen? ⟨B2, 1, none⟩ = false := by simp [World.frozen?, kz]
    have m2 := cell_of (j := 2) kz rfl
    have fm2 : W4.frozen? ⟨B2, 2, none⟩ = false := by simp [World.frozen?, kz]
    have m3 := cell_of (j := 3) kz rfl
    have fm3 : W4.frozen? ⟨B2, 3, none⟩ = false := by simp [World.frozen?, kz]
    have m4 := cell_of (j := 4) kz rfl
    have fm4 : W4.frozen? ⟨B2, 4, none⟩ = false := by simp [World.frozen?, kz]
    have m5 := cell_of (j := 5) kz rfl
    have fm5 : W4.frozen? ⟨B2, 5, none⟩ = false := by simp [World.frozen?, kz]
    go_wp2_with fail
    refine nameG (p := fun W => bodyPost Tryz.prog Tryz.f13 _ Exit.ret _ W) fun W7 hW7 => ?_
    have hk7 : W7.heap[B2]? = some (.cells #[.slice none 0 0, .int .i64 0, .int .u64 0, .slice none 0 0, .slice none 0 0, .slice none 0 0] 28 (0, 0)) := by
      have hx := (Blk_set (Blk_set (Blk_set (Blk_set (Blk_set (Blk_set kz (j := 0) (.slice none 0 0)) (j := 1) (.int .i64 0)) (j := 2) (.int .u64 0)) (j := 3) (.slice none 0 0)) (j := 4) (.slice none 0 0)) (j := 5) (.slice none 0 0))
      rw [hW7.out, hx]; rfl
    have j0 := cell_of (j := 0) hk7 rfl
    have j1 := cell_of (j := 1) hk7 rfl
    have j2 := cell_of (j := 2) hk7 rfl
    have j3 := cell_of (j := 3) hk7 rfl
    have j4 := cell_of (j := 4) hk7 rfl
    have j5 := cell_of (j := 5) hk7 rfl
    refine bodyPost_ret (v := .tuple #[.agg #[.slice none 0 0, .int .i64 0, .int .u64 0, .slice none 0 0, .slice none 0 0, .slice none 0 0], .int .i64 240]) (by simp [results, Tryz.results13, go_sem, j0, j1, j2, j3, j4, j5]) rfl ?_
    refine ⟨_, by rw [HQ.out], by rw [HQ.out]; exact IsBea.zero, ?_⟩
    rw [hW7.out]
    exact (((((((HB1.out.trans (HB4.out.mono HB1.out.size)).setCell (by show w.heap.size ≤ B2; omega) _).setCell (by show w.heap.size ≤ B2; omega) _).setCell (by show w.heap.size ≤ B2; omega) _).setCell (by show w.heap.size ≤ B2; omega) _).setCell (by show w.heap.size ≤ B2; omega) _).setCell (by show w.heap.size ≤ B2; omega) _)
  have HR3 := Lib.hid (show R = if fz = true then ({b with coms := b.coms ++ [c]}, 0) else (bea0, 240) by rw [HR2.out]; rfl)
  go_wp2_with fail
  refine (D3.out _ (HB1.out.trans (HB4.out.mono HB1.out.size))).out.mono ?_
  rintro e W6 ⟨rfl, hb⟩
  have HB6 : Hid (Below W1.heap.size W1 W6) := Lib.hid (HB4.out.trans (hb.mono HB4.out.size))
  clear hb
  clear c0 c1 c2 c3 c4 c5 d0 d1
  cases fz
  case false =>
    have HQ := Lib.hid (show R = (bea0, 240) by rw [HR3.out]; rfl)
    obtain ⟨c0, c1, c2, c3, c4, c5, d0, d1⟩ := HC.out _ HB6.out
    have kz := KZ.out W6 HB6.out
    have m0 := cell_of (j := 0) kz rfl
    have fm0 : W6.frozen? ⟨B2, 0, none⟩ = false := by simp [World.frozen?, kz]
    have m1 := cell_of (j := 1) kz rfl
    have fm1 : W6.frozen? ⟨B2, 1, none⟩ = false := by simp [World.frozen?, kz]
    have m2 := cell_of (j := 2) kz rfl
    have fm2 : W6.frozen? ⟨B2, 2, none⟩ = false := by simp [World.frozen?, kz]
    have m3 := cell_of (j := 3) kz rfl
    have fm3 : W6.frozen? ⟨B2, 3, none⟩ = false := by simp [World.frozen?, kz]
    have m4 := cell_of (j := 4) kz rfl
    have fm4 : W6.frozen? ⟨B2, 4, none⟩ = false := by simp [World.frozen?, kz]
    have m5 := cell_of (j := 5) kz rfl
    have fm5 : W6.frozen? ⟨B2, 5, none⟩ = false := by simp [World.frozen?, kz]
    go_wp2_with fail
    refine nameG (p := fun W => bodyPost Tryz.prog Tryz.f13 _ Exit.ret _ W) fun W7 hW7 => ?_
    have hk7 : W7.heap[B2]? = some (.cells #[.slice none 0 0, .int .i64 0, .int .u64 0, .slice none 0 0, .slice none 0 0, .slice none 0 0] 28 (0, 0)) := by
      have hx := (Blk_set (Blk_set (Blk_set (Blk_set (Blk_set (Blk_set kz (j := 0) (.slice none 0 0)) (j := 1) (.int .i64 0)) (j := 2) (.int .u64 0)) (j := 3) (.slice none 0 0)) (j := 4) (.slice none 0 0)) (j := 5) (.slice none 0 0))
      rw [hW7.out, hx]; rfl
    have j0 := cell_of (j := 0) hk7 rfl
    have j1 := cell_of (j := 1) hk7 rfl
    have j2 := cell_of (j := 2) hk7 rfl
    have j3 := cell_of (j := 3) hk7 rfl
    have j4 := cell_of (j := 4) hk7 rfl
    have j5 := cell_of (j := 5) hk7 rfl
    refine bodyPost_ret (v := .tuple #[.agg #[.slice none 0 0, .int .i64 0, .int .u64 0, .slice none 0 0, .slice none 0 0, .slice none 0 0], .int .i64 240]) (by simp [results, Tryz.results13, go_sem, j0, j1, j2, j3, j4, j5]) rfl ?_
    refine ⟨_, by rw [HQ.out], by rw [HQ.out]; exact IsBea.zero, ?_⟩
    rw [hW7.out]
    exact (((((((HB1.out.trans (HB6.out.mono HB1.out.size)).setCell (by show w.heap.size ≤ B2; omega) _).setCell (by show w.heap.size ≤ B2; omega) _).setCell (by show w.heap.size ≤ B2; omega) _).setCell (by show w.heap.size ≤ B2; omega) _).setCell (by show w.heap.size ≤ B2; omega) _).setCell (by show w.heap.size ≤ B2; omega) _)
  have HQ := Lib.hid (show R = ({b with coms := b.coms ++ [c]}, 0) by rw [HR3.out]; rfl)
  obtain ⟨vs, hvc, hvs⟩ := HI2.out
  have HVS := Lib.hid hvs
  obtain ⟨A', c', e, -, -, hcells⟩ := id hvc
  cases e
  have HCE := Lib.hid hcells
  have HW6 := Lib.hid (HB1.out.trans (HB6.out.mono HB1.out.size))
  have HNW := Lib.hid (show ∀ W', Below W6.heap.size W6 W' → 0 < b.coms.length → ∃ ad, kA = some ad ∧ ∀ j u, (flatF (comC vs b.coms) b.coms.length 2)[j]? = some u → W'.cell? (ad.add j) = some u from fun W' hW' => flat_news (Cells.keep HCE.out fun p _ hp => (HW6.out.trans (hW'.mono HW6.out.size)).cell hp) (by decide))
  have HON := Lib.hid (show ∀ u ∈ flatF (comC vs b.coms) b.coms.length 2, u.oneCell' = true from one_coms hvs)
  have HFL := Lib.hid (flatF_len (comC vs b.coms) b.coms.length 2)
  clear hcells hvc hvs
  have hb6s := HB6.out.size
  obtain ⟨G, hG⟩ : ∃ G, G = W6.heap.size := ⟨_, rfl⟩
  obtain ⟨FF, hFF⟩ : ∃ l, l = flatF (comC vs b.coms) b.coms.length 2 := ⟨_, rfl⟩
  have HFF := Lib.hid hFF
  rw [← hFF] at HNW HON HFL
  clear hFF
  go_upto_region 4 with fail
  go_cut [5] (fun _ W => ∃ (A6 : Option Addr) (c6 : Nat), Hid (W.heap[w.heap.size]? = some (.cells #[.slice cA b.clubs.length cc, .int .i64 b.thr, .int .u64 (b.rng : Int), .slice A6 (b.coms.length + 1) c6, .slice rA b.revs.length rc, .slice oA b.opns.length oc] 28 (0, 0))) ∧ Hid (W.ownsRow G 31 2 (.slice A6 (b.coms.length + 1) c6) (b.coms.length + 1) (FF ++ [.int .i64 cx, .slice uA ul uc])) ∧ Hid (Below w.heap.size w W ∧ ∀ q, q < W6.heap.size → q ≠ w.heap.size → W.heap[q]? = W6.heap[q]?))
  case first =>
    refine anyL_begin (z := 8) (S := fun W9 => Below W6.heap.size W6 W9) (by kernel_rfl) (Below.drew (Below.refl _ _)) (fun hHeld => ?_)
    refine AnyL.takeD (i := 1) (d := some 29) (v := ?_) rfl rfl (by kernel_rfl) (by kernel_rfl) (fun _ _ _ h => h) (by kernel_rfl) (by kernel_rfl) (by kernel_rfl) (Or.inl ⟨by rfl, ?_⟩) hHeld ?_
    rotate_left 1
    focus (intro w hSw; (try dsimp only at hSw); go_simp; (try with_reducible rfl))
    (repeat (first | simp only [Act.put] | simp only [List.setIfInBounds_toArray] | simp only [List.set_cons_zero] | simp only [List.set_cons_succ]))
    refine AnyL.takeD (i := 2) (d := some 30) (v := ?_) rfl rfl (by kernel_rfl) (by kernel_rfl) (fun _ _ _ h => h) (by kernel_rfl) (by kernel_rfl) (by kernel_rfl) (Or.inl ⟨by rfl, ?_⟩) hHeld ?_
    rotate_left 1
    focus (intro w hSw; (try dsimp only at hSw); obtain ⟨c0, c1, c2, c3, c4, c5, d0, d1⟩ := HC.out w (HB6.out.trans (Below.mono hSw HB6.out.size)); go_simp; (try with_reducible rfl))
    (repeat (first | simp only [Act.put] | simp only [List.setIfInBounds_toArray] | simp only [List.set_cons_zero] | simp only [List.set_cons_succ]))
    refine AnyL.takeD (i := 4) (d := some 32) (v := ?_) rfl rfl (by kernel_rfl) (by kernel_rfl) (fun _ _ _ h => h) (by kernel_rfl) (by kernel_rfl) (by kernel_rfl) (Or.inl ⟨by rfl, ?_⟩) hHeld ?_
    rotate_left 1
    focus (intro w hSw; (try dsimp only at hSw); obtain ⟨c0, c1, c2, c3, c4, c5, d0, d1⟩ := HC.out w (HB6.out.trans (Below.mono hSw HB6.out.size)); go_simp; (try with_reducible rfl))
    (repeat (first | simp only [Act.put] | simp only [List.setIfInBounds_toArray] | simp only [List.set_cons_zero] | simp only [List.set_cons_succ]))
    refine AnyL.two (i := 0) (j := 5) (by kernel_rfl) rfl rfl (fun K hK => ?_) (fun K hK => ?_)
    · skip
      go_simp
      refine nameG (w := W6.drew.alloc (.cells #[] 31)) (p := fun W => K _ W) fun wa hwa => ?_
      obtain ⟨ge, hge⟩ : ∃ g, g = W6.heap.size := ⟨_, rfl⟩
      have HBwa : Hid (Below W6.heap.size W6 wa) := Lib.hid (by rw [hwa.out]; exact Below.alloc (Below.drew (Below.refl W6.heap.size W6)) (Below.drew (Below.refl W6.heap.size W6)).size _)
      have HOwa : Hid (wa.ownsRow G 31 2 (.slice (some ⟨ge, 0, none⟩) 0 0) 0 []) := Lib.hid (own_empty (by rw [hwa.out, hge]; exact heap_alloc_new _ _) (by rw [hG, hge]; exact (Below.refl W6.heap.size W6).size))
      rw [← hge]
      clear hwa hge
      refine hK.out _ _ (fun _ => HBwa.out) (fun hHeld => ?_)
      replace hHeld := hHeld (by kernel_rfl)
      clear hK K
      (repeat (first | simp only [Act.put] | simp only [List.setIfInBounds_toArray] | simp only [List.set_cons_zero] | simp only [List.set_cons_succ]))
      refine AnyL.two (i := 3) (j := 5) (by kernel_rfl) rfl rfl (fun K hK => ?_) (fun K hK => ?_)
      · skip
        obtain ⟨ii, hii, hz0, hz1, hz2⟩ := info_parts Tryz.infoCom
        refine step_append_cells _ rfl (.tmp 28) (.tmp 30) 24 rfl G 31 ii _ 2 32 Tryz.underlying24 hii hz0 hz1 hz2 rfl (by decide) (.slice (some ⟨ge, 0, none⟩) 0 0) 0 [] rfl HOwa.out kA b.coms.length kc FF rfl HFL.out (HNW.out _ HBwa.out) HON.out (by unfold maxLen; omega) (by omega) (by rw [hG]; exact HBwa.out.size) ?_
        intro v3 wb hown hg _
        rw [Nat.zero_add, List.nil_append] at hown
        obtain ⟨A1, c1', rfl⟩ := own_sl hown
        have HOwb := Lib.hid hown
        have HBwb : Hid (Below W6.heap.size W6 wb) := Lib.hid (HBwa.out.grown hg HBwa.out.size (fun q e => by have h9 := own_base HOwa.out q e; rw [← hG]; exact h9))
        clear hown hg hz0 hz1 hz2 hii ii
        refine hK.out _ _ (fun _ => HBwb.out) (fun hHeld => ?_)
        replace hHeld := hHeld (by kernel_rfl)
        clear hK K
        (repeat (first | simp only [Act.put] | simp only [List.setIfInBounds_toArray] | simp only [List.set_cons_zero] | simp only [List.set_cons_succ]))
        refine AnyL.one (i := 5) (by kernel_rfl) rfl (fun K hK => ?_)
        go_simp
        refine nameG (w := wb.alloc (.cells #[.int .i64 cx, .slice uA ul uc] 31)) (p := fun W => K _ W) fun w8 hw8 => ?_
        obtain ⟨gn, hgn⟩ : ∃ g, g = wb.heap.size := ⟨_, rfl⟩
        have HBw8 : Hid (Below W6.heap.size W6 w8) := Lib.hid (by rw [hw8.out]; exact Below.alloc HBwb.out HBwb.out.size _)
        have HNw8 : Hid (w8.heap[gn]? = some (.cells #[.int .i64 cx, .slice uA ul uc] 31 (0, 0))) := Lib.hid (by rw [hw8.out, hgn]; exact heap_alloc_new _ _)
        have HOw8 := Lib.hid (HOwb.out.alloc (.cells #[.int .i64 cx, .slice uA ul uc] 31))
        rw [← hw8.out] at HOw8
        rw [← hgn]
        clear hw8 hgn
        refine hK.out _ _ (fun _ => HBw8.out) (fun hHeld => ?_)
        replace hHeld := hHeld (by kernel_rfl)
        clear hK K
        (repeat (first | simp only [Act.put] | simp only [List.setIfInBounds_toArray] | simp only [List.set_cons_zero] | simp only [List.set_cons_succ]))
        refine AnyL.one (i := 6) (by kernel_rfl) rfl (fun K hK => ?_)
        obtain ⟨ii, hii, hz0, hz1, hz2⟩ := info_parts Tryz.infoCom
        refine step_append_cells _ rfl (.tmp 31) (.tmp 33) 24 rfl G 31 ii _ 2 32 Tryz.underlying24 hii hz0 hz1 hz2 rfl (by decide) (.slice A1 b.coms.length c1') b.coms.length FF rfl HOw8.out (some ⟨gn, 0, none⟩) 1 1 [.int .i64 cx, .slice uA ul uc] rfl rfl (fun _ => ⟨_, rfl, fun j u hj => ?_⟩) (by simp [Value.oneCell']) (by unfold maxLen; omega) (by omega) (by rw [hG]; exact HBw8.out.size) ?_
        · rw [addr_add, Nat.zero_add]
          exact cell_of HNw8.out (by simpa using hj)
        intro v6 w6 hown hg _
        obtain ⟨A6, c6, rfl⟩ := own_sl hown
        have HO6 := Lib.hid hown
        have HB6' : Hid (Below W6.heap.size W6 w6) := Lib.hid (HBw8.out.grown hg HBw8.out.size (fun q e => by have h9 := own_base HOw8.out q e; rw [← hG]; exact h9))
        have k0' := K0.out w6 (HB6.out.trans (HB6'.out.mono HB6.out.size))
        clear hown hg hz0 hz1 hz2 hii ii
        refine hK.out _ _ (fun _ => HB6'.out) (fun hHeld => ?_)
        replace hHeld := hHeld (by kernel_rfl)
        clear hK K
        (repeat (first | simp only [Act.put] | simp only [List.setIfInBounds_toArray] | simp only [List.set_cons_zero] | simp only [List.set_cons_succ]))
        refine AnyL.takeD (i := 7) (d := some 35) (v := ?_) rfl rfl (by kernel_rfl) (by kernel_rfl) (fun _ _ _ h => h) (by kernel_rfl) (by kernel_rfl) (by kernel_rfl) (Or.inl ⟨by rfl, ?_⟩) hHeld ?_
        rotate_left 1
        focus (intro w hSw; (try dsimp only at hSw); go_simp; (try with_reducible rfl))
        (repeat (first | simp only [Act.put] | simp only [List.setIfInBounds_toArray] | simp only [List.set_cons_zero] | simp only [List.set_cons_succ]))
        refine AnyL.one (i := 8) (by kernel_rfl) rfl (fun K hK => ?_)
        have y3 := cell_of (j := 3) k0' rfl
        have fy3 : w6.frozen? ⟨w.heap.size, 3, none⟩ = false := by simp [World.frozen?, k0']
        go_simp
        refine nameG (w := w6.setCell ⟨w.heap.size, 3, none⟩ (.slice A6 (b.coms.length + 1) c6)) (p := fun W => K _ W) fun w5 hw5 => ?_
        have k5 : w5.heap[w.heap.size]? = some (.cells #[.slice cA b.clubs.length cc, .int .i64 b.thr, .int .u64 (b.rng : Int), .slice A6 (b.coms.length + 1) c6, .slice rA b.revs.length rc, .slice oA b.opns.length oc] 28 (0, 0)) := by
          have hx := Blk_set k0' (j := 3) (.slice A6 (b.coms.length + 1) c6)
          rw [hw5.out, hx]; rfl
        have hk5 : ∀ q, q ≠ w.heap.size → w5.heap[q]? = w6.heap[q]? := fun q hq => by rw [hw5.out]; exact Below.heap_setCell _ _ _ _ hq
        have hwG : w.heap.size < W6.heap.size := by have := HB6.out.size; omega
        have K5 := Lib.hid k5
        have HO5 := Lib.hid (own_kept HO6.out (W := w5) (fun q hq _ => hk5 q (by omega)))
        have HK5 := Lib.hid (show Below w.heap.size w w5 ∧ ∀ q, q < W6.heap.size → q ≠ w.heap.size → w5.heap[q]? = W6.heap[q]? from ⟨by rw [hw5.out]; exact (HW6.out.trans (HB6'.out.mono HW6.out.size)).setCell (Nat.le_refl _) _, fun q h1 h2 => (hk5 q h2).trans (HB6'.out.block q h1)⟩)
        clear hw5 k5 hk5 hwG k0' y3 fy3
        refine hK.out _ _ (fun h => nomatch (show true = false from h)) (fun _ => ?_)
        clear hK K
        (try dsimp only)
        refine AnyL.done (by kernel_rfl) ?_
        go_wp2_with fail
        go_meet
        case rel => exact ⟨A6, c6, K5, HO5, HK5⟩
      · skip
        go_simp
        refine nameG (w := wa.alloc (.cells #[.int .i64 cx, .slice uA ul uc] 31)) (p := fun W => K _ W) fun wb hwb => ?_
        obtain ⟨gn, hgn⟩ : ∃ g, g = wa.heap.size := ⟨_, rfl⟩
        have HBwb : Hid (Below W6.heap.size W6 wb) := Lib.hid (by rw [hwb.out]; exact Below.alloc HBwa.out HBwa.out.size _)
        have HNwb : Hid (wb.heap[gn]? = some (.cells #[.int .i64 cx, .slice uA ul uc] 31 (0, 0))) := Lib.hid (by rw [hwb.out, hgn]; exact heap_alloc_new _ _)
        have HOwb := Lib.hid (HOwa.out.alloc (.cells #[.int .i64 cx, .slice uA ul uc] 31))
        rw [← hwb.out] at HOwb
        have HGE := Lib.hid (show gn ≠ ge by have := (own_lt HOwa.out ge rfl).2; omega)
        rw [← hgn]
        clear hwb hgn
        refine hK.out _ _ (fun _ => HBwb.out) (fun hHeld => ?_)
        replace hHeld := hHeld (by kernel_rfl)
        clear hK K
        (repeat (first | simp only [Act.put] | simp only [List.setIfInBounds_toArray] | simp only [List.set_cons_zero] | simp only [List.set_cons_succ]))
        refine AnyL.one (i := 3) (by kernel_rfl) rfl (fun K hK => ?_)
        obtain ⟨ii, hii, hz0, hz1, hz2⟩ := info_parts Tryz.infoCom
        refine step_append_cells _ rfl (.tmp 28) (.tmp 30) 24 rfl G 31 ii _ 2 32 Tryz.underlying24 hii hz0 hz1 hz2 rfl (by decide) (.slice (some ⟨ge, 0, none⟩) 0 0) 0 [] rfl HOwb.out kA b.coms.length kc FF rfl HFL.out (HNW.out _ HBwb.out) HON.out (by unfold maxLen; omega) (by omega) (by rw [hG]; exact HBwb.out.size) ?_
        intro v3 w8 hown hg _
        rw [Nat.zero_add, List.nil_append] at hown
        obtain ⟨A1, c1', rfl⟩ := own_sl hown
        have HOw8 := Lib.hid hown
        have HBw8 : Hid (Below W6.heap.size W6 w8) := Lib.hid (HBwb.out.grown hg HBwb.out.size (fun q e => by have h9 := own_base HOwb.out q e; rw [← hG]; exact h9))
        have HNw8 := Lib.hid ((hg.block gn (lt_heap HNwb.out) (fun e => HGE.out (by simpa [Value.ownBlock] using e))).trans HNwb.out)
        clear hown hg hz0 hz1 hz2 hii ii
        refine hK.out _ _ (fun _ => HBw8.out) (fun hHeld => ?_)
        replace hHeld := hHeld (by kernel_rfl)
        clear hK K
        (repeat (first | simp only [Act.put] | simp only [List.setIfInBounds_toArray] | simp only [List.set_cons_zero] | simp only [List.set_cons_succ]))
        refine AnyL.one (i := 6) (by kernel_rfl) rfl (fun K hK => ?_)
        obtain ⟨ii, hii, hz0, hz1, hz2⟩ := info_parts Tryz.infoCom
        refine step_append_cells _ rfl (.tmp 31) (.tmp 33) 24 rfl G 31 ii _ 2 32 Tryz.underlying24 hii hz0 hz1 hz2 rfl (by decide) (.slice A1 b.coms.length c1') b.coms.length FF rfl HOw8.out (some ⟨gn, 0, none⟩) 1 1 [.int .i64 cx, .slice uA ul uc] rfl rfl (fun _ => ⟨_, rfl, fun j u hj => ?_⟩) (by simp [Value.oneCell']) (by unfold maxLen; omega) (by omega) (by rw [hG]; exact HBw8.out.size) ?_
        · rw [addr_add, Nat.zero_add]
          exact cell_of HNw8.out (by simpa using hj)
        intro v6 w6 hown hg _
        obtain ⟨A6, c6, rfl⟩ := own_sl hown
        have HO6 := Lib.hid hown
        have HB6' : Hid (Below W6.heap.size W6 w6) := Lib.hid (HBw8.out.grown hg HBw8.out.size (fun q e => by have h9 := own_base HOw8.out q e; rw [← hG]; exact h9))
        have k0' := K0.out w6 (HB6.out.trans (HB6'.out.mono HB6.out.size))
        clear hown hg hz0 hz1 hz2 hii ii
        refine hK.out _ _ (fun _ => HB6'.out) (fun hHeld => ?_)
        replace hHeld := hHeld (by kernel_rfl)
        clear hK K
        (repeat (first | simp only [Act.put] | simp only [List.setIfInBounds_toArray] | simp only [List.set_cons_zero] | simp only [List.set_cons_succ]))
        refine AnyL.takeD (i := 7) (d := some 35) (v := ?_) rfl rfl (by kernel_rfl) (by kernel_rfl) (fun _ _ _ h => h) (by kernel_rfl) (by kernel_rfl) (by kernel_rfl) (Or.inl ⟨by rfl, ?_⟩) hHeld ?_
        rotate_left 1
        focus (intro w hSw; (try dsimp only at hSw); go_simp; (try with_reducible rfl))
        (repeat (first | simp only [Act.put] | simp only [List.setIfInBounds_toArray] | simp only [List.set_cons_zero] | simp only [List.set_cons_succ]))
        refine AnyL.one (i := 8) (by kernel_rfl) rfl (fun K hK => ?_)
        have y3 := cell_of (j := 3) k0' rfl
        have fy3 : w6.frozen? ⟨w.heap.size, 3, none⟩ = false := by simp [World.frozen?, k0']
        go_simp
        refine nameG (w := w6.setCell ⟨w.heap.size, 3, none⟩ (.slice A6 (b.coms.length + 1) c6)) (p := fun W => K _ W) fun w5 hw5 => ?_
        have k5 : w5.heap[w.heap.size]? = some (.cells #[.slice cA b.clubs.length cc, .int .i64 b.thr, .int .u64 (b.rng : Int), .slice A6 (b.coms.length + 1) c6, .slice rA b.revs.length rc, .slice oA b.opns.length oc] 28 (0, 0)) := by
          have hx := Blk_set k0' (j := 3) (.slice A6 (b.coms.length + 1) c6)
          rw [hw5.out, hx]; rfl
        have hk5 : ∀ q, q ≠ w.heap.size → w5.heap[q]? = w6.heap[q]? := fun q hq => by rw [hw5.out]; exact Below.heap_setCell _ _ _ _ hq
        have hwG : w.heap.size < W6.heap.size := by have := HB6.out.size; omega
        have K5 := Lib.hid k5
        have HO5 := Lib.hid (own_kept HO6.out (W := w5) (fun q hq _ => hk5 q (by omega)))
        have HK5 := Lib.hid (show Below w.heap.size w w5 ∧ ∀ q, q < W6.heap.size → q ≠ w.heap.size → w5.heap[q]? = W6.heap[q]? from ⟨by rw [hw5.out]; exact (HW6.out.trans (HB6'.out.mono HW6.out.size)).setCell (Nat.le_refl _) _, fun q h1 h2 => (hk5 q h2).trans (HB6'.out.block q h1)⟩)
        clear hw5 k5 hk5 hwG k0' y3 fy3
        refine hK.out _ _ (fun h => nomatch (show true = false from h)) (fun _ => ?_)
        clear hK K
        (try dsimp only)
        refine AnyL.done (by kernel_rfl) ?_
        go_wp2_with fail
        go_meet
        case rel => exact ⟨A6, c6, K5, HO5, HK5⟩
    · skip
      go_simp
      refine nameG (w := W6.drew.alloc (.cells #[.int .i64 cx, .slice uA ul uc] 31)) (p := fun W => K _ W) fun wa hwa => ?_
      obtain ⟨gn, hgn⟩ : ∃ g, g = W6.heap.size := ⟨_, rfl⟩
      have HBwa : Hid (Below W6.heap.size W6 wa) := Lib.hid (by rw [hwa.out]; exact Below.alloc (Below.drew (Below.refl W6.heap.size W6)) (Below.drew (Below.refl W6.heap.size W6)).size _)
      have HNwa : Hid (wa.heap[gn]? = some (.cells #[.int .i64 cx, .slice uA ul uc] 31 (0, 0))) := Lib.hid (by rw [hwa.out, hgn]; exact heap_alloc_new _ _)
      rw [← hgn]
      clear hwa hgn
      refine hK.out _ _ (fun _ => HBwa.out) (fun hHeld => ?_)
      replace hHeld := hHeld (by kernel_rfl)
      clear hK K
      (repeat (first | simp only [Act.put] | simp only [List.setIfInBounds_toArray] | simp only [List.set_cons_zero] | simp only [List.set_cons_succ]))
      refine AnyL.one (i := 0) (by kernel_rfl) rfl (fun K hK => ?_)
      go_simp
      refine nameG (w := wa.alloc (.cells #[] 31)) (p := fun W => K _ W) fun wb hwb => ?_
      obtain ⟨ge, hge⟩ : ∃ g, g = wa.heap.size := ⟨_, rfl⟩
      have HBwb : Hid (Below W6.heap.size W6 wb) := Lib.hid (by rw [hwb.out]; exact Below.alloc HBwa.out HBwa.out.size _)
      have HOwb : Hid (wb.ownsRow G 31 2 (.slice (some ⟨ge, 0, none⟩) 0 0) 0 []) := Lib.hid (own_empty (by rw [hwb.out, hge]; exact heap_alloc_new _ _) (by rw [hG, hge]; exact HBwa.out.size))
      have HNwb := Lib.hid ((Below.heap_alloc _ (.cells #[] 31) _ (lt_heap HNwa.out)).trans HNwa.out)
      rw [← hwb.out] at HNwb
      have HGE := Lib.hid (show gn ≠ ge by have := lt_heap HNwa.out; omega)
      rw [← hge]
      clear hwb hge
      refine hK.out _ _ (fun _ => HBwb.out) (fun hHeld => ?_)
      replace hHeld := hHeld (by kernel_rfl)
      clear hK K
      (repeat (first | simp only [Act.put] | simp only [List.setIfInBounds_toArray] | simp only [List.set_cons_zero] | simp only [List.set_cons_succ]))
      refine AnyL.one (i := 3) (by kernel_rfl) rfl (fun K hK => ?_)
      obtain ⟨ii, hii, hz0, hz1, hz2⟩ := info_parts Tryz.infoCom
      refine step_append_cells _ rfl (.tmp 28) (.tmp 30) 24 rfl G 31 ii _ 2 32 Tryz.underlying24 hii hz0 hz1 hz2 rfl (by decide) (.slice (some ⟨ge, 0, none⟩) 0 0) 0 [] rfl HOwb.out kA b.coms.length kc FF rfl HFL.out (HNW.out _ HBwb.out) HON.out (by unfold maxLen; omega) (by omega) (by rw [hG]; exact HBwb.out.size) ?_
      intro v3 w8 hown hg _
      rw [Nat.zero_add, List.nil_append] at hown
      obtain ⟨A1, c1', rfl⟩ := own_sl hown
      have HOw8 := Lib.hid hown
      have HBw8 : Hid (Below W6.heap.size W6 w8) := Lib.hid (HBwb.out.grown hg HBwb.out.size (fun q e => by have h9 := own_base HOwb.out q e; rw [← hG]; exact h9))
      have HNw8 := Lib.hid ((hg.block gn (lt_heap HNwb.out) (fun e => HGE.out (by simpa [Value.ownBlock] using e))).trans HNwb.out)
      clear hown hg hz0 hz1 hz2 hii ii
      refine hK.out _ _ (fun _ => HBw8.out) (fun hHeld => ?_)
      replace hHeld := hHeld (by kernel_rfl)
      clear hK K
      (repeat (first | simp only [Act.put] | simp only [List.setIfInBounds_toArray] | simp only [List.set_cons_zero] | simp only [List.set_cons_succ]))
      refine AnyL.one (i := 6) (by kernel_rfl) rfl (fun K hK => ?_)
      obtain ⟨ii, hii, hz0, hz1, hz2⟩ := info_parts Tryz.infoCom
      refine step_append_cells _ rfl (.tmp 31) (.tmp 33) 24 rfl G 31 ii _ 2 32 Tryz.underlying24 hii hz0 hz1 hz2 rfl (by decide) (.slice A1 b.coms.length c1') b.coms.length FF rfl HOw8.out (some ⟨gn, 0, none⟩) 1 1 [.int .i64 cx, .slice uA ul uc] rfl rfl (fun _ => ⟨_, rfl, fun j u hj => ?_⟩) (by simp [Value.oneCell']) (by unfold maxLen; omega) (by omega) (by rw [hG]; exact HBw8.out.size) ?_
      · rw [addr_add, Nat.zero_add]
        exact cell_of HNw8.out (by simpa using hj)
      intro v6 w6 hown hg _
      obtain ⟨A6, c6, rfl⟩ := own_sl hown
      have HO6 := Lib.hid hown
      have HB6' : Hid (Below W6.heap.size W6 w6) := Lib.hid (HBw8.out.grown hg HBw8.out.size (fun q e => by have h9 := own_base HOw8.out q e; rw [← hG]; exact h9))
      have k0' := K0.out w6 (HB6.out.trans (HB6'.out.mono HB6.out.size))
      clear hown hg hz0 hz1 hz2 hii ii
      refine hK.out _ _ (fun _ => HB6'.out) (fun hHeld => ?_)
      replace hHeld := hHeld (by kernel_rfl)
      clear hK K
      (repeat (first | simp only [Act.put] | simp only [List.setIfInBounds_toArray] | simp only [List.set_cons_zero] | simp only [List.set_cons_succ]))
      refine AnyL.takeD (i := 7) (d := some 35) (v := ?_) rfl rfl (by kernel_rfl) (by kernel_rfl) (fun _ _ _ h => h) (by kernel_rfl) (by kernel_rfl) (by kernel_rfl) (Or.inl ⟨by rfl, ?_⟩) hHeld ?_
      rotate_left 1
      focus (intro w hSw; (try dsimp only at hSw); go_simp; (try with_reducible rfl))
      (repeat (first | simp only [Act.put] | simp only [List.setIfInBounds_toArray] | simp only [List.set_cons_zero] | simp only [List.set_cons_succ]))
      refine AnyL.one (i := 8) (by kernel_rfl) rfl (fun K hK => ?_)
      have y3 := cell_of (j := 3) k0' rfl
      have fy3 : w6.frozen? ⟨w.heap.size, 3, none⟩ = false := by simp [World.frozen?, k0']
      go_simp
      refine nameG (w := w6.setCell ⟨w.heap.size, 3, none⟩ (.slice A6 (b.coms.length + 1) c6)) (p := fun W => K _ W) fun w5 hw5 => ?_
      have k5 : w5.heap[w.heap.size]? = some (.cells #[.slice cA b.clubs.length cc, .int .i64 b.thr, .int .u64 (b.rng : Int), .slice A6 (b.coms.length + 1) c6, .slice rA b.revs.length rc, .slice oA b.opns.length oc] 28 (0, 0)) := by
        have hx := Blk_set k0' (j := 3) (.slice A6 (b.coms.length + 1) c6)
        rw [hw5.out, hx]; rfl
      have hk5 : ∀ q, q ≠ w.heap.size → w5.heap[q]? = w6.heap[q]? := fun q hq => by rw [hw5.out]; exact Below.heap_setCell _ _ _ _ hq
      have hwG : w.heap.size < W6.heap.size := by have := HB6.out.size; omega
      have K5 := Lib.hid k5
      have HO5 := Lib.hid (own_kept HO6.out (W := w5) (fun q hq _ => hk5 q (by omega)))
      have HK5 := Lib.hid (show Below w.heap.size w w5 ∧ ∀ q, q < W6.heap.size → q ≠ w.heap.size → w5.heap[q]? = W6.heap[q]? from ⟨by rw [hw5.out]; exact (HW6.out.trans (HB6'.out.mono HW6.out.size)).setCell (Nat.le_refl _) _, fun q h1 h2 => (hk5 q h2).trans (HB6'.out.block q h1)⟩)
      clear hw5 k5 hk5 hwG k0' y3 fy3
      refine hK.out _ _ (fun h => nomatch (show true = false from h)) (fun _ => ?_)
      clear hK K
      (try dsimp only)
      refine AnyL.done (by kernel_rfl) ?_
      go_wp2_with fail
      go_meet
      case rel => exact ⟨A6, c6, K5, HO5, HK5⟩
  case rest =>
    obtain ⟨A6, c6, K5, HO5, HK5⟩ := hcut
    have HKZ := Lib.hid ((HK5.out.2 B2 (by omega) (by omega)).trans (KZ.out W6 HB6.out))
    have HBw7 := Lib.hid HK5.out.1
    have r0 := cell_of (j := 0) K5.out rfl
    have r1 := cell_of (j := 1) K5.out rfl
    have r2 := cell_of (j := 2) K5.out rfl
    have r3 := cell_of (j := 3) K5.out rfl
    have r4 := cell_of (j := 4) K5.out rfl
    have r5 := cell_of (j := 5) K5.out rfl
    have m0 := cell_of (j := 0) HKZ.out rfl
    have fm0 : wc.frozen? ⟨B2, 0, none⟩ = false := by simp [World.frozen?, HKZ.out]
    have m1 := cell_of (j := 1) HKZ.out rfl
    have fm1 : wc.frozen? ⟨B2, 1, none⟩ = false := by simp [World.frozen?, HKZ.out]
    have m2 := cell_of (j := 2) HKZ.out rfl
    have fm2 : wc.frozen? ⟨B2, 2, none⟩ = false := by simp [World.frozen?, HKZ.out]
    have m3 := cell_of (j := 3) HKZ.out rfl
    have fm3 : wc.frozen? ⟨B2, 3, none⟩ = false := by simp [World.frozen?, HKZ.out]
    have m4 := cell_of (j := 4) HKZ.out rfl
    have fm4 : wc.frozen? ⟨B2, 4, none⟩ = false := by simp [World.frozen?, HKZ.out]
    have m5 := cell_of (j := 5) HKZ.out rfl
    have fm5 : wc.frozen? ⟨B2, 5, none⟩ = false := by simp [World.frozen?, HKZ.out]
    go_wp2_with fail
    refine nameG (p := fun W => bodyPost Tryz.prog Tryz.f13 _ Exit.ret _ W) fun W7 hW7 => ?_
    have hk7 : W7.heap[B2]? = some (.cells #[.slice cA b.clubs.length cc, .int .i64 b.thr, .int .u64 (b.rng : Int), .slice A6 (b.coms.length + 1) c6, .slice rA b.revs.length rc, .slice oA b.opns.length oc] 28 (0, 0)) := by
      have hx := (Blk_set (Blk_set (Blk_set (Blk_set (Blk_set (Blk_set HKZ.out (j := 0) (.slice cA b.clubs.length cc)) (j := 1) (.int .i64 b.thr)) (j := 2) (.int .u64 (b.rng : Int))) (j := 3) (.slice A6 (b.coms.length + 1) c6)) (j := 4) (.slice rA b.revs.length rc)) (j := 5) (.slice oA b.opns.length oc))
      rw [hW7.out, hx]; rfl
    have j0 := cell_of (j := 0) hk7 rfl
    have j1 := cell_of (j := 1) hk7 rfl
    have j2 := cell_of (j := 2) hk7 rfl
    have j3 := cell_of (j := 3) hk7 rfl
    have j4 := cell_of (j := 4) hk7 rfl
    have j5 := cell_of (j := 5) hk7 rfl
    refine bodyPost_ret (v := .tuple #[.agg #[.slice cA b.clubs.length cc, .int .i64 b.thr, .int .u64 (b.rng : Int), .slice A6 (b.coms.length + 1) c6, .slice rA b.revs.length rc, .slice oA b.opns.length oc], .int .i64 0]) (by simp [results, Tryz.results13, go_sem, j0, j1, j2, j3, j4, j5]) rfl ?_
    have hb7 : Below w.heap.size w W7 := by rw [hW7.out]; exact ((((((HBw7.out.setCell (by show w.heap.size ≤ B2; omega) _).setCell (by show w.heap.size ≤ B2; omega) _).setCell (by show w.heap.size ≤ B2; omega) _).setCell (by show w.heap.size ≤ B2; omega) _).setCell (by show w.heap.size ≤ B2; omega) _).setCell (by show w.heap.size ≤ B2; omega) _)
    have hW6w : w.heap.size < W6.heap.size := by omega
    have hB26 : B2 < W6.heap.size := by omega
    have ho7 : W7.ownsRow G 31 2 (.slice A6 (b.coms.length + 1) c6) (b.coms.length + 1) (flatF (comC vs b.coms) b.coms.length 2 ++ [.int .i64 cx, .slice uA ul uc]) := by
      rw [← HFF.out]
      refine own_kept HO5.out (fun q hq _ => ?_)
      rw [hW7.out]
      repeat rw [Below.heap_setCell _ _ _ _ (show q ≠ B2 by omega)]
    refine ⟨_, by rw [HQ.out], ?_, hb7⟩
    rw [HQ.out]
    rw [HX.out.1, HX.out.2] at ho7
    have hx3 : ∀ q, G ≤ q → (fun q => M q ∨ M' q ∨ w.heap.size ≤ q) q := fun q h => Or.inr (Or.inr (by omega))
    have hk7u := HU.out
    rw [HX.out.2] at hk7u
    have hrow := coms_snoc (fun i hi => IsSl.below (HVS.out i hi) hb7) (IsSl.below hk7u hb7) (Below.refl _ _) (fun q h => Or.inl h) (fun q h => Or.inr (Or.inl h)) hx3 ho7
    have hcl : IsInts W7 (fun q => M q ∨ M' q ∨ w.heap.size ≤ q) (.slice cA b.clubs.length cc) b.clubs := IsSl.mono (IsSl.below HI1.out hb7) (fun q _ h => Or.inl h) (by omega)
    have hrv : IsRevs W7 (fun q => M q ∨ M' q ∨ w.heap.size ≤ q) (.slice rA b.revs.length rc) b.revs := IsSl.mono (IsSl.below HI3.out hb7) (fun q _ h => Or.inl h) (by omega)
    have hop : IsOpns W7 (fun q => M q ∨ M' q ∨ w.heap.size ≤ q) (.slice oA b.opns.length oc) b.opns := IsSl.mono (IsSl.below HI4.out hb7) (fun q _ h => Or.inl h) (by omega)
    exact ⟨.slice cA b.clubs.length cc, .slice A6 (b.coms.length + 1) c6, .slice rA b.revs.length rc, .slice oA b.opns.length oc, rfl, hcl, hrow, hrv, hop⟩
end Go.Proofs.YtgaanndidcdbpaaGreat
