import Derived.Test.YtgaanndidcdbpaaZI
import Derived.Deep.DeepCutAuto
import Derived.BigQuiet
/- Commit. -/
namespace Go.Proofs.Ytgaanndidcdbpaa
open Go.RowKit Go.Shelf

set_option maxRecDepth 20000 in
set_option maxHeartbeats 8000000 in
theorem commit_any (w : World) (M M' : Nat → Prop) (v u : Value) (b : BeaD) (c : ComD) (h : IsBea w M v b) (hs : SmallB b) (h' : IsCom w M' u c) (hc : W64 c.club) (hl : c.checks.length ≤ 140737488355328) : Calls Try.prog 20 #[v, u] w (BeaE w (fun q => M q ∨ M' q ∨ w.heap.size ≤ q) (commitD b c)) := by
  have HBE := Lib.hid h
  have HS := Lib.hid hs
  have HU := Lib.hid h'
  obtain ⟨ku, rfl, hk⟩ := h'
  obtain ⟨uA, uc, rfl, -⟩ := id hk
  have HK := Lib.hid hk
  have HC64 := Lib.hid hc
  obtain ⟨cA, cc, kA, kc, rA, rc, oA, oc, rfl, i1, i2, i3, i4⟩ := h.parts
  have HI1 := Lib.hid i1
  have HI2 := Lib.hid i2
  have HI3 := Lib.hid i3
  have HI4 := Lib.hid i4
  have D1 := Lib.hid (fun (W : World) (hW : Below w.heap.size w W) => Lib.hid (bcheck_any W M _ b (h.below hW) hs))
  have D2 := Lib.hid (fun (W : World) (hW : Below w.heap.size w W) => Lib.hid (open_any W M _ b (h.below hW) hs))
  have D3 := Lib.hid (fun (W : World) (hW : Below w.heap.size w W) (Mb : Nat → Prop) (vb : Value) (hb : IsBoard W Mb vb b) => Lib.hid (commitFits_any W Mb M' vb _ b c hb (HU.out.below hW) hc hl))
  obtain ⟨fz, hfz⟩ : ∃ z, z = comB b c := ⟨_, rfl⟩
  have HFZ := Lib.hid hfz
  rw [← hfz] at D3
  obtain ⟨R, hR⟩ : ∃ R, R = commitD b c := ⟨_, rfl⟩
  have HR := Lib.hid hR
  rw [← hR]
  obtain ⟨ck, hck⟩ : ∃ z, z = chkD b := ⟨_, rfl⟩
  have HCK := Lib.hid hck
  rw [← hck] at D1
  have hmb : b.coms.length ≤ 1000 := hs.co
  have hrb : b.revs.length ≤ 1000 := hs.re
  have hob : b.opns.length ≤ 1000 := hs.op
  have hkc : b.coms.length ≤ kc := by obtain ⟨A', c', e, h1, -⟩ := i2.len; cases e; exact h1
  have hrc : b.revs.length ≤ rc := by obtain ⟨A', c', e, h1, -⟩ := id i3; cases e; exact h1
  have hoc : b.opns.length ≤ oc := by obtain ⟨A', c', e, h1, -⟩ := id i4; cases e; exact h1
  clear h hs i1 i2 i3 i4 hfz hR hck hk hc hl
  obtain ⟨n, hn⟩ : ∃ n, n = b.clubs.length := ⟨_, rfl⟩
  obtain ⟨m, hm⟩ : ∃ n, n = b.coms.length := ⟨_, rfl⟩
  obtain ⟨nr, hnr⟩ : ∃ n, n = b.revs.length := ⟨_, rfl⟩
  obtain ⟨no, hno⟩ : ∃ n, n = b.opns.length := ⟨_, rfl⟩
  obtain ⟨thr, hthr⟩ : ∃ n, n = b.thr := ⟨_, rfl⟩
  obtain ⟨rng, hrng⟩ : ∃ n, n = b.rng := ⟨_, rfl⟩
  obtain ⟨cx, hcx⟩ : ∃ x, x = c.club := ⟨_, rfl⟩
  obtain ⟨ul, hul⟩ : ∃ x, x = c.checks.length := ⟨_, rfl⟩
  have HE := Lib.hid (And.intro hn (And.intro hm (And.intro hnr (And.intro hno (And.intro hthr hrng)))))
  have HX := Lib.hid (And.intro hcx hul)
  rw [← hn, ← hm, ← hnr, ← hno, ← hthr, ← hrng, ← hcx, ← hul]
  (try rw [← hn] at D1)
  (try rw [← hm] at D1)
  (try rw [← hnr] at D1)
  (try rw [← hno] at D1)
  (try rw [← hthr] at D1)
  (try rw [← hrng] at D1)
  (try rw [← hcx] at D1)
  (try rw [← hul] at D1)
  (try rw [← hn] at D2)
  (try rw [← hm] at D2)
  (try rw [← hnr] at D2)
  (try rw [← hno] at D2)
  (try rw [← hthr] at D2)
  (try rw [← hrng] at D2)
  (try rw [← hcx] at D2)
  (try rw [← hul] at D2)
  (try rw [← hn] at D3)
  (try rw [← hm] at D3)
  (try rw [← hnr] at D3)
  (try rw [← hno] at D3)
  (try rw [← hthr] at D3)
  (try rw [← hrng] at D3)
  (try rw [← hcx] at D3)
  (try rw [← hul] at D3)
  rw [← hm] at hmb hkc
  rw [← hnr] at hrb hrc
  rw [← hno] at hob hoc
  clear hn hm hnr hno hthr hrng hcx hul
  go_enter Try.func20, Try.ntmps20
  go_upto_region 1 with fail
  refine nameC fun W1 hW1 => ?_
  have hb1 : Below w.heap.size w W1 := by rw [hW1.out]; exact (((Below.refl _ _).alloc (Nat.le_refl _) _).alloc (by simp) _).alloc (by simp; omega) _
  have k0 : W1.heap[w.heap.size]? = some (.cells #[.slice cA n cc, .int .i64 thr, .int .u64 (rng : Int), .slice kA m kc, .slice rA nr rc, .slice oA no oc] 32 (0, 0)) := by rw [hW1.out]; simp only [heap_alloc_if, World.size_alloc]; rw [if_neg (by omega)]; rw [if_neg (by omega)]; rw [if_pos trivial]
  have k1 : W1.heap[w.heap.size + 1]? = some (.cells #[.int .i64 cx, .slice uA ul uc] 64 (0, 0)) := by rw [hW1.out]; simp only [heap_alloc_if, World.size_alloc]; rw [if_neg (by omega)]; rw [if_pos trivial]
  have k2 : W1.heap[w.heap.size + 1 + 1]? = some (.cells #[.slice none 0 0, .int .i64 0, .int .u64 0, .slice none 0 0, .slice none 0 0, .slice none 0 0] 32 (0, 0)) := by rw [hW1.out]; simp only [heap_alloc_if, World.size_alloc]; rw [if_pos trivial]
  obtain ⟨B2, hB2⟩ : ∃ B, B = w.heap.size + 1 + 1 := ⟨_, rfl⟩
  rw [← hB2] at k2 ⊢
  obtain ⟨B1, hB1⟩ : ∃ B, B = w.heap.size + 1 := ⟨_, rfl⟩
  rw [← hB1] at k1 ⊢
  have hne1 : w.heap.size < B1 := by omega
  have hne2 : B1 < B2 := by omega
  have HC := Lib.hid (show ∀ W', Below W1.heap.size W1 W' → (W'.cell? ⟨w.heap.size, 0, none⟩ = some (.slice cA n cc) ∧ W'.cell? ⟨w.heap.size, 1, none⟩ = some (.int .i64 thr) ∧ W'.cell? ⟨w.heap.size, 2, none⟩ = some (.int .u64 (rng : Int)) ∧ W'.cell? ⟨w.heap.size, 3, none⟩ = some (.slice kA m kc) ∧ W'.cell? ⟨w.heap.size, 4, none⟩ = some (.slice rA nr rc) ∧ W'.cell? ⟨w.heap.size, 5, none⟩ = some (.slice oA no oc) ∧ W'.cell? ⟨B1, 0, none⟩ = some (.int .i64 cx) ∧ W'.cell? ⟨B1, 1, none⟩ = some (.slice uA ul uc)) from fun W' h => by
    have e0 := (h.block _ (lt_heap k0)).trans k0
    have e1 := (h.block _ (lt_heap k1)).trans k1
    exact ⟨cell_of e0 rfl, cell_of e0 rfl, cell_of e0 rfl, cell_of e0 rfl, cell_of e0 rfl, cell_of e0 rfl, cell_of e1 rfl, cell_of e1 rfl⟩)
  have K0 := Lib.hid (show ∀ W', Below W1.heap.size W1 W' → W'.heap[w.heap.size]? = some (.cells #[.slice cA n cc, .int .i64 thr, .int .u64 (rng : Int), .slice kA m kc, .slice rA nr rc, .slice oA no oc] 32 (0, 0)) from fun W' h => (h.block _ (lt_heap k0)).trans k0)
  have K1 := Lib.hid (show ∀ W', Below W1.heap.size W1 W' → W'.heap[B1]? = some (.cells #[.int .i64 cx, .slice uA ul uc] 64 (0, 0)) from fun W' h => (h.block _ (lt_heap k1)).trans k1)
  have KZ := Lib.hid (show ∀ W', Below W1.heap.size W1 W' → W'.heap[B2]? = some (.cells #[.slice none 0 0, .int .i64 0, .int .u64 0, .slice none 0 0, .slice none 0 0, .slice none 0 0] 32 (0, 0)) from fun W' h => (h.block _ (lt_heap k2)).trans k2)
  have hsz1 := lt_heap k2
  have HB1 := Lib.hid hb1
  clear hW1 hb1 k0 k1 k2 hB1 hB2
  obtain ⟨c0_0, c0_1, c0_2, c0_3, c0_4, c0_5, c1_0, c1_1⟩ := HC.out _ (Below.refl _ _)
  go_wp2_with fail
  refine (D1.out _ HB1.out).out.mono ?_
  rintro e W2 ⟨rfl, hb⟩
  have HB2 := Lib.hid hb
  clear hb
  clear c0_0 c0_1 c0_2 c0_3 c0_4 c0_5 c1_0 c1_1
  obtain ⟨c0_0, c0_1, c0_2, c0_3, c0_4, c0_5, c1_0, c1_1⟩ := HC.out _ HB2.out
  by_cases t0 : ck = 0
  case neg =>
    have b0 : (ck != 0) = true := by rw [bne_iff_ne]; exact t0
    have HQ := Lib.hid (show R = (bea0, ck) by rw [HR.out]; unfold commitD; rw [← HCK.out, if_neg t0])
    clear t0
    have kz := KZ.out W2 HB2.out
    have m0 := cell_of (j := 0) kz rfl
    have fm0 : W2.frozen? ⟨B2, 0, none⟩ = false := by simp [World.frozen?, kz]
    have m1 := cell_of (j := 1) kz rfl
    have fm1 : W2.frozen? ⟨B2, 1, none⟩ = false := by simp [World.frozen?, kz]
    have m2 := cell_of (j := 2) kz rfl
    have fm2 : W2.frozen? ⟨B2, 2, none⟩ = false := by simp [World.frozen?, kz]
    have m3 := cell_of (j := 3) kz rfl
    have fm3 : W2.frozen? ⟨B2, 3, none⟩ = false := by simp [World.frozen?, kz]
    have m4 := cell_of (j := 4) kz rfl
    have fm4 : W2.frozen? ⟨B2, 4, none⟩ = false := by simp [World.frozen?, kz]
    have m5 := cell_of (j := 5) kz rfl
    have fm5 : W2.frozen? ⟨B2, 5, none⟩ = false := by simp [World.frozen?, kz]
    go_wp2_with fail
    refine nameG (p := fun W => bodyPost Try.prog Try.f20 _ Exit.ret _ W) fun W7 hW7 => ?_
    have hk7 : W7.heap[B2]? = some (.cells #[.slice none 0 0, .int .i64 0, .int .u64 0, .slice none 0 0, .slice none 0 0, .slice none 0 0] 32 (0, 0)) := by
      have hx := (Blk_set (Blk_set (Blk_set (Blk_set (Blk_set (Blk_set kz (j := 0) (.slice none 0 0)) (j := 1) (.int .i64 0)) (j := 2) (.int .u64 0)) (j := 3) (.slice none 0 0)) (j := 4) (.slice none 0 0)) (j := 5) (.slice none 0 0))
      rw [hW7.out, hx]; rfl
    have j0 := cell_of (j := 0) hk7 rfl
    have j1 := cell_of (j := 1) hk7 rfl
    have j2 := cell_of (j := 2) hk7 rfl
    have j3 := cell_of (j := 3) hk7 rfl
    have j4 := cell_of (j := 4) hk7 rfl
    have j5 := cell_of (j := 5) hk7 rfl
    refine bodyPost_ret (v := .tuple #[.agg #[.slice none 0 0, .int .i64 0, .int .u64 0, .slice none 0 0, .slice none 0 0, .slice none 0 0], .int .i64 ck]) (by simp [results, Try.results20, go_sem, j0, j1, j2, j3, j4, j5]) rfl ?_
    refine ⟨_, by rw [HQ.out], by rw [HQ.out]; exact IsBea.zero, ?_⟩
    rw [hW7.out]
    exact (((((((HB1.out.trans (HB2.out.mono HB1.out.size)).setCell (by show w.heap.size ≤ B2; omega) _).setCell (by show w.heap.size ≤ B2; omega) _).setCell (by show w.heap.size ≤ B2; omega) _).setCell (by show w.heap.size ≤ B2; omega) _).setCell (by show w.heap.size ≤ B2; omega) _).setCell (by show w.heap.size ≤ B2; omega) _)
  have b0 : (ck != 0) = false := by rw [bne_eq_false_iff_eq]; exact t0
  have HR2 := Lib.hid (show R = if (comAt b c.club).isSome || !fz then (bea0, 240) else ({b with coms := b.coms ++ [c]}, 0) by rw [HR.out]; unfold commitD; rw [← HCK.out, if_pos t0, ← HFZ.out])
  clear t0
  go_wp2_with fail
  refine (D2.out _ (HB1.out.trans (HB2.out.mono HB1.out.size))).out.mono ?_
  rintro e W3 ⟨v3, rfl, hbd, hb⟩
  have HBD := Lib.hid hbd
  have HB3 := Lib.hid (HB2.out.trans (hb.mono HB2.out.size))
  obtain ⟨dA, dc, lA, lc, sA, sc, pA, pc, bp, bc, rfl, -, -, -, -, hbm⟩ := hbd.parts
  have HBM := Lib.hid hbm
  obtain ⟨dz, hdz⟩ : ∃ z, z = doneB b := ⟨_, rfl⟩
  rw [← HE.out.1, ← HE.out.2.1, ← HE.out.2.2.1, ← HE.out.2.2.2.1, ← HE.out.2.2.2.2.1, ← HE.out.2.2.2.2.2, ← hdz] at HBD ⊢
  clear hbd hb hbm D1 D2 hdz
  clear c0_0 c0_1 c0_2 c0_3 c0_4 c0_5 c1_0 c1_1
  obtain ⟨c0_0, c0_1, c0_2, c0_3, c0_4, c0_5, c1_0, c1_1⟩ := HC.out _ HB3.out
  go_upto_region 5 with fail
  refine nameC fun W4 hW4 => ?_
  have hb4 : Below W3.heap.size W3 W4 := by rw [hW4.out]; exact (Below.refl _ _).alloc (Nat.le_refl _) _
  have k4 : W4.heap[W3.heap.size]? = some (.cells #[.slice dA n dc, .int .i64 thr, .int .u64 (rng : Int), .slice lA m lc, .slice sA nr sc, .slice pA no pc, .map (some bp), .map (some bc), .bool dz] 89 (0, 0)) := by rw [hW4.out]; exact heap_alloc_new _ _
  obtain ⟨g4, hg4⟩ : ∃ g, g = W3.heap.size := ⟨_, rfl⟩
  rw [← hg4] at k4 ⊢
  have K4 := Lib.hid k4
  have HB4 := Lib.hid (HB3.out.trans (hb4.mono HB3.out.size))
  have HBD4 := Lib.hid (HBD.out.below hb4)
  have HBM4 := Lib.hid (HBM.out.below hb4)
  clear hW4 hb4 k4 hg4 HBD HBM
  clear c0_0 c0_1 c0_2 c0_3 c0_4 c0_5 c1_0 c1_1
  obtain ⟨c0_0, c0_1, c0_2, c0_3, c0_4, c0_5, c1_0, c1_1⟩ := HC.out _ HB4.out
  have q0 := cell_of (j := 0) K4.out rfl
  have q1 := cell_of (j := 1) K4.out rfl
  have q2 := cell_of (j := 2) K4.out rfl
  have q3 := cell_of (j := 3) K4.out rfl
  have q4 := cell_of (j := 4) K4.out rfl
  have q5 := cell_of (j := 5) K4.out rfl
  have q6 := cell_of (j := 6) K4.out rfl
  have q7 := cell_of (j := 7) K4.out rfl
  have q8 := cell_of (j := 8) K4.out rfl
  rcases com_look HBM4.out HC64.out with ⟨e1, hl⟩ | ⟨kk, kuA, kuc, e1, -, -, hl⟩
  case inr =>
    have hlk := hl W4 (Below.refl _ _)
    rw [← HX.out.1] at hlk e1
    have HQ := Lib.hid (show R = (bea0, 240) by rw [HR2.out, ← HX.out.1, e1]; rfl)
    obtain ⟨kx, hkx⟩ : ∃ x, x = kk.club := ⟨_, rfl⟩
    obtain ⟨kl, hkl⟩ : ∃ x, x = kk.checks.length := ⟨_, rfl⟩
    rw [← hkx, ← hkl] at hlk
    clear hl e1 hkx hkl
    go_upto_region 7 with fail
    refine nameC fun W5 hW5 => ?_
    have HB5 := Lib.hid (show Below W1.heap.size W1 W5 by rw [hW5.out]; exact HB4.out.alloc HB4.out.size _)
    clear hW5 hlk q0 q1 q2 q3 q4 q5 q6 q7 q8
    clear c0_0 c0_1 c0_2 c0_3 c0_4 c0_5 c1_0 c1_1
    have kz := KZ.out W5 HB5.out
    have m0 := cell_of (j := 0) kz rfl
    have fm0 : W5.frozen? ⟨B2, 0, none⟩ = false := by simp [World.frozen?, kz]
    have m1 := cell_of (j := 1) kz rfl
    have fm1 : W5.frozen? ⟨B2, 1, none⟩ = false := by simp [World.frozen?, kz]
    have m2 := cell_of (j := 2) kz rfl
    have fm2 : W5.frozen? ⟨B2, 2, none⟩ = false := by simp [World.frozen?, kz]
    have m3 := cell_of (j := 3) kz rfl
    have fm3 : W5.frozen? ⟨B2, 3, none⟩ = false := by simp [World.frozen?, kz]
    have m4 := cell_of (j := 4) kz rfl
    have fm4 : W5.frozen? ⟨B2, 4, none⟩ = false := by simp [World.frozen?, kz]
    have m5 := cell_of (j := 5) kz rfl
    have fm5 : W5.frozen? ⟨B2, 5, none⟩ = false := by simp [World.frozen?, kz]
    go_wp2_with fail
    refine nameG (p := fun W => bodyPost Try.prog Try.f20 _ Exit.ret _ W) fun W7 hW7 => ?_
    have hk7 : W7.heap[B2]? = some (.cells #[.slice none 0 0, .int .i64 0, .int .u64 0, .slice none 0 0, .slice none 0 0, .slice none 0 0] 32 (0, 0)) := by
      have hx := (Blk_set (Blk_set (Blk_set (Blk_set (Blk_set (Blk_set kz (j := 0) (.slice none 0 0)) (j := 1) (.int .i64 0)) (j := 2) (.int .u64 0)) (j := 3) (.slice none 0 0)) (j := 4) (.slice none 0 0)) (j := 5) (.slice none 0 0))
      rw [hW7.out, hx]; rfl
    have j0 := cell_of (j := 0) hk7 rfl
    have j1 := cell_of (j := 1) hk7 rfl
    have j2 := cell_of (j := 2) hk7 rfl
    have j3 := cell_of (j := 3) hk7 rfl
    have j4 := cell_of (j := 4) hk7 rfl
    have j5 := cell_of (j := 5) hk7 rfl
    refine bodyPost_ret (v := .tuple #[.agg #[.slice none 0 0, .int .i64 0, .int .u64 0, .slice none 0 0, .slice none 0 0, .slice none 0 0], .int .i64 240]) (by simp [results, Try.results20, go_sem, j0, j1, j2, j3, j4, j5]) rfl ?_
    refine ⟨_, by rw [HQ.out], by rw [HQ.out]; exact IsBea.zero, ?_⟩
    rw [hW7.out]
    exact (((((((HB1.out.trans (HB5.out.mono HB1.out.size)).setCell (by show w.heap.size ≤ B2; omega) _).setCell (by show w.heap.size ≤ B2; omega) _).setCell (by show w.heap.size ≤ B2; omega) _).setCell (by show w.heap.size ≤ B2; omega) _).setCell (by show w.heap.size ≤ B2; omega) _).setCell (by show w.heap.size ≤ B2; omega) _)
  have hlk := hl W4 (Below.refl _ _)
  rw [← HX.out.1] at hlk e1
  have HR3 := Lib.hid (show R = if !fz then (bea0, 240) else ({b with coms := b.coms ++ [c]}, 0) by rw [HR2.out, ← HX.out.1, e1]; rfl)
  clear hl e1
  go_upto_region 6 with fail
  refine nameC fun W5 hW5 => ?_
  have hb5 : Below W4.heap.size W4 W5 := by rw [hW5.out]; exact (Below.refl _ _).alloc (Nat.le_refl _) _
  have k5 := (hb5.block _ (lt_heap K4.out)).trans K4.out
  have HB5 := Lib.hid (HB4.out.trans (hb5.mono HB4.out.size))
  have HBD5 := Lib.hid (HBD4.out.below hb5)
  clear hW5 hlk hb5 q0 q1 q2 q3 q4 q5 q6 q7 q8
  clear c0_0 c0_1 c0_2 c0_3 c0_4 c0_5 c1_0 c1_1
  obtain ⟨c0_0, c0_1, c0_2, c0_3, c0_4, c0_5, c1_0, c1_1⟩ := HC.out _ HB5.out
  have q0 := cell_of (j := 0) k5 rfl
  have q1 := cell_of (j := 1) k5 rfl
  have q2 := cell_of (j := 2) k5 rfl
  have q3 := cell_of (j := 3) k5 rfl
  have q4 := cell_of (j := 4) k5 rfl
  have q5 := cell_of (j := 5) k5 rfl
  have q6 := cell_of (j := 6) k5 rfl
  have q7 := cell_of (j := 7) k5 rfl
  have q8 := cell_of (j := 8) k5 rfl
  clear k5
  go_wp2_with fail
  refine (D3.out _ (HB1.out.trans (HB5.out.mono HB1.out.size)) _ _ HBD5.out).out.mono ?_
  rintro e W6 ⟨rfl, hb⟩
  have HB6 := Lib.hid (HB5.out.trans (hb.mono HB5.out.size))
  clear hb q0 q1 q2 q3 q4 q5 q6 q7 q8
  clear c0_0 c0_1 c0_2 c0_3 c0_4 c0_5 c1_0 c1_1
  cases fz
  · have HQ := Lib.hid (show R = (bea0, 240) by rw [HR3.out]; rfl)
    have kz := KZ.out W6 HB6.out
    have m0 := cell_of (j := 0) kz rfl
    have fm0 : W6.frozen? ⟨B2, 0, none⟩ = false := by simp [World.frozen?, kz]
    have m1 := cell_of (j := 1) kz rfl
    have fm1 : W6.frozen? ⟨B2, 1, none⟩ = false := by simp [World.frozen?, kz]
    have m2 := cell_of (j := 2) kz rfl
    have fm2 : W6.frozen? ⟨B2, 2, none⟩ = false := by simp [World.frozen?, kz]
    have m3 := cell_of (j := 3) kz rfl
    have fm3 : W6.frozen? ⟨B2, 3, none⟩ = false := by simp [World.frozen?, kz]
    have m4 := cell_of (j := 4) kz rfl
    have fm4 : W6.frozen? ⟨B2, 4, none⟩ = false := by simp [World.frozen?, kz]
    have m5 := cell_of (j := 5) kz rfl
    have fm5 : W6.frozen? ⟨B2, 5, none⟩ = false := by simp [World.frozen?, kz]
    go_wp2_with fail
    refine nameG (p := fun W => bodyPost Try.prog Try.f20 _ Exit.ret _ W) fun W7 hW7 => ?_
    have hk7 : W7.heap[B2]? = some (.cells #[.slice none 0 0, .int .i64 0, .int .u64 0, .slice none 0 0, .slice none 0 0, .slice none 0 0] 32 (0, 0)) := by
      have hx := (Blk_set (Blk_set (Blk_set (Blk_set (Blk_set (Blk_set kz (j := 0) (.slice none 0 0)) (j := 1) (.int .i64 0)) (j := 2) (.int .u64 0)) (j := 3) (.slice none 0 0)) (j := 4) (.slice none 0 0)) (j := 5) (.slice none 0 0))
      rw [hW7.out, hx]; rfl
    have j0 := cell_of (j := 0) hk7 rfl
    have j1 := cell_of (j := 1) hk7 rfl
    have j2 := cell_of (j := 2) hk7 rfl
    have j3 := cell_of (j := 3) hk7 rfl
    have j4 := cell_of (j := 4) hk7 rfl
    have j5 := cell_of (j := 5) hk7 rfl
    refine bodyPost_ret (v := .tuple #[.agg #[.slice none 0 0, .int .i64 0, .int .u64 0, .slice none 0 0, .slice none 0 0, .slice none 0 0], .int .i64 240]) (by simp [results, Try.results20, go_sem, j0, j1, j2, j3, j4, j5]) rfl ?_
    refine ⟨_, by rw [HQ.out], by rw [HQ.out]; exact IsBea.zero, ?_⟩
    rw [hW7.out]
    exact (((((((HB1.out.trans (HB6.out.mono HB1.out.size)).setCell (by show w.heap.size ≤ B2; omega) _).setCell (by show w.heap.size ≤ B2; omega) _).setCell (by show w.heap.size ≤ B2; omega) _).setCell (by show w.heap.size ≤ B2; omega) _).setCell (by show w.heap.size ≤ B2; omega) _).setCell (by show w.heap.size ≤ B2; omega) _)
  have HQ := Lib.hid (show R = ({b with coms := b.coms ++ [c]}, 0) by rw [HR3.out]; rfl)
  obtain ⟨vs, hvc, hvs⟩ := HI2.out
  have HVS := Lib.hid hvs
  obtain ⟨A', c', e, -, -, hcells⟩ := id hvc
  obtain ⟨e4, -, e5⟩ := Value.slice.inj e
  subst e4 e5
  rw [← HE.out.2.1] at hcells
  have HCE := Lib.hid hcells
  have HNA := Lib.hid (show kA = none → m = 0 from fun hA => by
    rcases Nat.eq_zero_or_pos m with h0 | h0
    · exact h0
    · obtain ⟨b', off', e', -⟩ := hcells h0
      rw [hA] at e'; cases e')
  have HW6 := Lib.hid (HB1.out.trans (HB6.out.mono HB1.out.size))
  clear e hcells hvc hvs
  have hb6s := HB6.out.size
  go_upto_region 8 with fail
  refine anyL_begin (z := 7) (S := fun W9 => Below W6.heap.size W6 W9) (by kernel_rfl) (Below.drew (Below.refl _ _)) (fun hHeld => ?_)
  refine AnyL.take (i := 0) (v := ?_) rfl (by kernel_rfl) (by kernel_rfl) (fun _ _ _ h => h) (by kernel_rfl) (by kernel_rfl) (by kernel_rfl) (Or.inl ⟨by rfl, ?_⟩) hHeld ?_
  rotate_left 1
  focus (intro w hSw; (try dsimp only at hSw); go_simp; (try with_reducible rfl))
  (repeat (first | simp only [Act.put] | simp only [List.setIfInBounds_toArray] | simp only [List.set_cons_zero] | simp only [List.set_cons_succ]))
  refine AnyL.take (i := 1) (v := ?_) rfl (by kernel_rfl) (by kernel_rfl) (fun _ _ _ h => h) (by kernel_rfl) (by kernel_rfl) (by kernel_rfl) (Or.inl ⟨by rfl, ?_⟩) hHeld ?_
  rotate_left 1
  focus (intro w hSw; (try dsimp only at hSw); obtain ⟨c0_0, c0_1, c0_2, c0_3, c0_4, c0_5, c1_0, c1_1⟩ := HC.out w (HB6.out.trans (Below.mono hSw HB6.out.size)); go_simp; (try with_reducible rfl))
  (repeat (first | simp only [Act.put] | simp only [List.setIfInBounds_toArray] | simp only [List.set_cons_zero] | simp only [List.set_cons_succ]))
  refine AnyL.take (i := 3) (v := ?_) rfl (by kernel_rfl) (by kernel_rfl) (fun _ _ _ h => h) (by kernel_rfl) (by kernel_rfl) (by kernel_rfl) (Or.inl ⟨by rfl, ?_⟩) hHeld ?_
  rotate_left 1
  focus (intro w hSw; (try dsimp only at hSw); obtain ⟨c0_0, c0_1, c0_2, c0_3, c0_4, c0_5, c1_0, c1_1⟩ := HC.out w (HB6.out.trans (Below.mono hSw HB6.out.size)); go_simp; (try with_reducible rfl))
  (repeat (first | simp only [Act.put] | simp only [List.setIfInBounds_toArray] | simp only [List.set_cons_zero] | simp only [List.set_cons_succ]))
  refine AnyL.two (i := 2) (j := 4) (by kernel_rfl) rfl rfl (fun K hK => ?_) (fun K hK => ?_)
  · skip
    go_simp
    go_at_call 47
    refine (clipC_any _ _ _ _ hmb hkc).mono ?_
    rintro e w9 ⟨rfl, hb9⟩
    have HB9 : Hid (Below W6.heap.size W6 w9) := Lib.hid ((show Below W6.heap.size W6 _ from (Below.drew (Below.refl _ _))).trans (hb9.mono (show Below W6.heap.size W6 _ from (Below.drew (Below.refl _ _))).size))
    clear hb9
    refine hK.out _ _ (fun _ => HB9.out) (fun hHeld => ?_)
    replace hHeld := hHeld (by kernel_rfl)
    clear hK K
    (repeat (first | simp only [Act.put] | simp only [List.setIfInBounds_toArray] | simp only [List.set_cons_zero] | simp only [List.set_cons_succ]))
    refine AnyL.one (i := 4) (by kernel_rfl) rfl (fun K hK => ?_)
    go_simp
    refine nameG (w := w9.alloc (.cells #[.int .i64 cx, .slice uA ul uc] 64)) (p := fun W => K _ W) fun w8 hw8 => ?_
    have hn8 : w8.heap[w9.heap.size]? = some (.cells #[.int .i64 cx, .slice uA ul uc] 64 (0, 0)) := by rw [hw8.out]; exact heap_alloc_new _ _
    have hb8 : Below W6.heap.size W6 w8 := by rw [hw8.out]; exact HB9.out.alloc HB9.out.size _
    have HN8 := Lib.hid hn8
    have HB8 := Lib.hid hb8
    obtain ⟨gn, hgn⟩ : ∃ g, g = w9.heap.size := ⟨_, rfl⟩
    rw [← hgn] at HN8 ⊢
    clear hw8 hn8 hb8 hgn HB9
    refine hK.out _ _ (fun _ => HB8.out) (fun hHeld => ?_)
    replace hHeld := hHeld (by kernel_rfl)
    clear hK K
    (repeat (first | simp only [Act.put] | simp only [List.setIfInBounds_toArray] | simp only [List.set_cons_zero] | simp only [List.set_cons_succ]))
    refine AnyL.one (i := 5) (by kernel_rfl) rfl (fun K hK => ?_)
    obtain ⟨ii, hii, hz0, hz1, hz2⟩ := info_parts Try.infoCom
    refine step_grow rfl (.tmp 36) (.tmp 38) 28 rfl 64 ii _ 2 32 Try.underlying28 hii hz0 hz1 hz2 rfl (by decide) kA m (flatF (comC vs b.coms) m 2) rfl (flatF_len _ _ _) HNA.out (flatF_holds (Cells.keep HCE.out fun p _ hp => (HW6.out.trans (HB8.out.mono HW6.out.size)).cell hp) (by decide)) gn [.int .i64 cx, .slice uA ul uc] rfl rfl (fun j u hj => ?_) (by simp [Value.oneCell']) (by unfold maxLen; omega) (by omega) ?_
    · rw [addr_add, Nat.zero_add]
      exact cell_of HN8.out (by simpa using hj)
    intro v6 w6 hown6 hg6
    obtain ⟨A6, c6, rfl⟩ := own_sl hown6
    have hb6' : Below W6.heap.size W6 w6 := HB8.out.grown hg6 HB8.out.size (fun q e => by cases e)
    have HB6' := Lib.hid hb6'
    have HO6 := Lib.hid hown6
    have HSZ8 := Lib.hid HB8.out.size
    have k0' := K0.out w6 (HB6.out.trans (hb6'.mono HB6.out.size))
    clear hown6 hg6 hb6' hz0 hz1 hz2 hii ii
    refine hK.out _ _ (fun _ => HB6'.out) (fun hHeld => ?_)
    replace hHeld := hHeld (by kernel_rfl)
    clear hK K
    (repeat (first | simp only [Act.put] | simp only [List.setIfInBounds_toArray] | simp only [List.set_cons_zero] | simp only [List.set_cons_succ]))
    refine AnyL.take (i := 6) (v := ?_) rfl (by kernel_rfl) (by kernel_rfl) (fun _ _ _ h => h) (by kernel_rfl) (by kernel_rfl) (by kernel_rfl) (Or.inl ⟨by rfl, ?_⟩) hHeld ?_
    rotate_left 1
    focus (intro w hSw; (try dsimp only at hSw); go_simp; (try with_reducible rfl))
    (repeat (first | simp only [Act.put] | simp only [List.setIfInBounds_toArray] | simp only [List.set_cons_zero] | simp only [List.set_cons_succ]))
    refine AnyL.one (i := 7) (by kernel_rfl) rfl (fun K hK => ?_)
    have y3 := cell_of (j := 3) k0' rfl
    have fy3 : w6.frozen? ⟨w.heap.size, 3, none⟩ = false := by simp [World.frozen?, k0']
    go_simp
    refine nameG (w := w6.setCell ⟨w.heap.size, 3, none⟩ (.slice A6 (m + 1) c6)) (p := fun W => K _ W) fun w5 hw5 => ?_
    have k5 : w5.heap[w.heap.size]? = some (.cells #[.slice cA n cc, .int .i64 thr, .int .u64 (rng : Int), .slice A6 (m + 1) c6, .slice rA nr rc, .slice oA no oc] 32 (0, 0)) := by
      have hx := Blk_set k0' (j := 3) (.slice A6 (m + 1) c6)
      rw [hw5.out, hx]; rfl
    have hk5 : ∀ q, q ≠ w.heap.size → w5.heap[q]? = w6.heap[q]? := fun q hq => by rw [hw5.out]; exact Below.heap_setCell _ _ _ _ hq
    have hb5 : Below w.heap.size w w5 := by rw [hw5.out]; exact (HW6.out.trans (HB6'.out.mono HW6.out.size)).setCell (Nat.le_refl _) _
    have kz := (hk5 B2 (by omega)).trans (KZ.out w6 (HB6.out.trans (HB6'.out.mono HB6.out.size)))
    have K5 := Lib.hid k5
    have KZ5 := Lib.hid kz
    have HB5 := Lib.hid hb5
    have HK5 := Lib.hid hk5
    clear hw5 k5 hk5 hb5 kz k0' y3 fy3
    refine hK.out _ _ (fun h => nomatch (show true = false from h)) (fun _ => ?_)
    clear hK K
    (try dsimp only)
    refine AnyL.done (by kernel_rfl) ?_
    have r0 := cell_of (j := 0) K5.out rfl
    have r1 := cell_of (j := 1) K5.out rfl
    have r2 := cell_of (j := 2) K5.out rfl
    have r3 := cell_of (j := 3) K5.out rfl
    have r4 := cell_of (j := 4) K5.out rfl
    have r5 := cell_of (j := 5) K5.out rfl
    have m0 := cell_of (j := 0) KZ5.out rfl
    have fm0 : w5.frozen? ⟨B2, 0, none⟩ = false := by simp [World.frozen?, KZ5.out]
    have m1 := cell_of (j := 1) KZ5.out rfl
    have fm1 : w5.frozen? ⟨B2, 1, none⟩ = false := by simp [World.frozen?, KZ5.out]
    have m2 := cell_of (j := 2) KZ5.out rfl
    have fm2 : w5.frozen? ⟨B2, 2, none⟩ = false := by simp [World.frozen?, KZ5.out]
    have m3 := cell_of (j := 3) KZ5.out rfl
    have fm3 : w5.frozen? ⟨B2, 3, none⟩ = false := by simp [World.frozen?, KZ5.out]
    have m4 := cell_of (j := 4) KZ5.out rfl
    have fm4 : w5.frozen? ⟨B2, 4, none⟩ = false := by simp [World.frozen?, KZ5.out]
    have m5 := cell_of (j := 5) KZ5.out rfl
    have fm5 : w5.frozen? ⟨B2, 5, none⟩ = false := by simp [World.frozen?, KZ5.out]
    go_wp2_with fail
    refine nameG (p := fun W => bodyPost Try.prog Try.f20 _ Exit.ret _ W) fun W7 hW7 => ?_
    have hk7 : W7.heap[B2]? = some (.cells #[.slice cA n cc, .int .i64 thr, .int .u64 (rng : Int), .slice A6 (m + 1) c6, .slice rA nr rc, .slice oA no oc] 32 (0, 0)) := by
      have hx := (Blk_set (Blk_set (Blk_set (Blk_set (Blk_set (Blk_set KZ5.out (j := 0) (.slice cA n cc)) (j := 1) (.int .i64 thr)) (j := 2) (.int .u64 (rng : Int))) (j := 3) (.slice A6 (m + 1) c6)) (j := 4) (.slice rA nr rc)) (j := 5) (.slice oA no oc))
      rw [hW7.out, hx]; rfl
    have j0 := cell_of (j := 0) hk7 rfl
    have j1 := cell_of (j := 1) hk7 rfl
    have j2 := cell_of (j := 2) hk7 rfl
    have j3 := cell_of (j := 3) hk7 rfl
    have j4 := cell_of (j := 4) hk7 rfl
    have j5 := cell_of (j := 5) hk7 rfl
    refine bodyPost_ret (v := .tuple #[.agg #[.slice cA n cc, .int .i64 thr, .int .u64 (rng : Int), .slice A6 (m + 1) c6, .slice rA nr rc, .slice oA no oc], .int .i64 0]) (by simp [results, Try.results20, go_sem, j0, j1, j2, j3, j4, j5]) rfl ?_

    have hb7 : Below w.heap.size w W7 := by rw [hW7.out]; exact ((((((HB5.out.setCell (by show w.heap.size ≤ B2; omega) _).setCell (by show w.heap.size ≤ B2; omega) _).setCell (by show w.heap.size ≤ B2; omega) _).setCell (by show w.heap.size ≤ B2; omega) _).setCell (by show w.heap.size ≤ B2; omega) _).setCell (by show w.heap.size ≤ B2; omega) _)
    have hW6w : w.heap.size < W6.heap.size := by have := HB6.out.size; omega
    have hB26 : B2 < W6.heap.size := by have := HB6.out.size; omega
    have hk7 : ∀ q, W6.heap.size ≤ q → W7.heap[q]? = w6.heap[q]? := fun q hq => by
      rw [hW7.out]
      repeat rw [Below.heap_setCell _ _ _ _ (show q ≠ B2 by omega)]
      exact HK5.out q (by omega)
    have hw8g : W6.heap.size ≤ w8.heap.size := HSZ8.out
    have ho7 : W7.ownsRow w8.heap.size 64 2 (.slice A6 (m + 1) c6) (m + 1) (flatF (comC vs b.coms) m 2 ++ [.int .i64 cx, .slice uA ul uc]) := by
      obtain ⟨o1, o2⟩ := HO6.out
      refine ⟨o1, ?_⟩
      rcases o2 with o2 | ⟨q, cap, cur, q1, q2, q3, q4⟩
      · exact .inl o2
      · exact .inr ⟨q, cap, cur, q1, q2, (hk7 q (by omega)).trans q3, q4⟩

    obtain ⟨e1, e2, e3, e4, e5, e6⟩ := HE.out
    have hb69 := hb7
    refine ⟨_, by rw [HQ.out], ?_, hb7⟩
    rw [HQ.out]
    rw [HX.out.1, HX.out.2, e2] at ho7
    have hx3 : ∀ q, w8.heap.size ≤ q → ((fun q => M q ∨ M' q ∨ w.heap.size ≤ q)) q := fun q h => Or.inr (Or.inr (by omega))
    have hrow := coms_snoc (fun i hi => IsSl.below (HVS.out i hi) hb69) (IsSl.below HK.out hb69) (Below.refl _ _) (fun q h => Or.inl h) (fun q h => Or.inr (Or.inl h)) hx3 ho7
    have hcl : IsInts W7 (fun q => M q ∨ M' q ∨ w.heap.size ≤ q) (.slice cA n cc) b.clubs := by rw [e1]; exact IsSl.mono (IsSl.below HI1.out hb7) (fun q _ h => Or.inl h) (by omega)
    rw [← e2] at hrow
    have hrv : IsRevs W7 (fun q => M q ∨ M' q ∨ w.heap.size ≤ q) (.slice rA nr rc) b.revs := by rw [e3]; exact IsSl.mono (IsSl.below HI3.out hb7) (fun q _ h => Or.inl h) (by omega)
    have hop : IsOpns W7 (fun q => M q ∨ M' q ∨ w.heap.size ≤ q) (.slice oA no oc) b.opns := by rw [e4]; exact IsSl.mono (IsSl.below HI4.out hb7) (fun q _ h => Or.inl h) (by omega)
    refine ⟨.slice cA n cc, .slice A6 (m + 1) c6, .slice rA nr rc, .slice oA no oc, ?_, hcl, hrow, hrv, hop⟩
    rw [e5, e6]
  · skip
    go_simp
    refine nameG (w := W6.drew.alloc (.cells #[.int .i64 cx, .slice uA ul uc] 64)) (p := fun W => K _ W) fun w9 hw9 => ?_
    have hn8 : w9.heap[W6.heap.size]? = some (.cells #[.int .i64 cx, .slice uA ul uc] 64 (0, 0)) := by rw [hw9.out]; exact heap_alloc_new W6.drew _
    have HB9 : Hid (Below W6.heap.size W6 w9) := Lib.hid (by rw [hw9.out]; exact (Below.drew (Below.refl _ _)).alloc (Nat.le_refl _) _)
    have HN9 := Lib.hid hn8
    obtain ⟨gn, hgn⟩ : ∃ g, g = W6.heap.size := ⟨_, rfl⟩
    rw [← hgn]
    rw [← hgn] at HN9
    clear hw9 hn8 hgn
    refine hK.out _ _ (fun _ => HB9.out) (fun hHeld => ?_)
    replace hHeld := hHeld (by kernel_rfl)
    clear hK K
    (repeat (first | simp only [Act.put] | simp only [List.setIfInBounds_toArray] | simp only [List.set_cons_zero] | simp only [List.set_cons_succ]))
    refine AnyL.one (i := 2) (by kernel_rfl) rfl (fun K hK => ?_)
    go_simp
    go_at_call 47
    refine (clipC_any _ _ _ _ hmb hkc).mono ?_
    rintro e w8 ⟨rfl, hb9⟩
    have HB8 : Hid (Below W6.heap.size W6 w8) := Lib.hid (HB9.out.trans (hb9.mono HB9.out.size))
    have HN8 := Lib.hid ((hb9.block _ (lt_heap HN9.out)).trans HN9.out)
    clear hb9 HN9 HB9
    refine hK.out _ _ (fun _ => HB8.out) (fun hHeld => ?_)
    replace hHeld := hHeld (by kernel_rfl)
    clear hK K
    (repeat (first | simp only [Act.put] | simp only [List.setIfInBounds_toArray] | simp only [List.set_cons_zero] | simp only [List.set_cons_succ]))
    refine AnyL.one (i := 5) (by kernel_rfl) rfl (fun K hK => ?_)
    obtain ⟨ii, hii, hz0, hz1, hz2⟩ := info_parts Try.infoCom
    refine step_grow rfl (.tmp 36) (.tmp 38) 28 rfl 64 ii _ 2 32 Try.underlying28 hii hz0 hz1 hz2 rfl (by decide) kA m (flatF (comC vs b.coms) m 2) rfl (flatF_len _ _ _) HNA.out (flatF_holds (Cells.keep HCE.out fun p _ hp => (HW6.out.trans (HB8.out.mono HW6.out.size)).cell hp) (by decide)) gn [.int .i64 cx, .slice uA ul uc] rfl rfl (fun j u hj => ?_) (by simp [Value.oneCell']) (by unfold maxLen; omega) (by omega) ?_
    · rw [addr_add, Nat.zero_add]
      exact cell_of HN8.out (by simpa using hj)
    intro v6 w6 hown6 hg6
    obtain ⟨A6, c6, rfl⟩ := own_sl hown6
    have hb6' : Below W6.heap.size W6 w6 := HB8.out.grown hg6 HB8.out.size (fun q e => by cases e)
    have HB6' := Lib.hid hb6'
    have HO6 := Lib.hid hown6
    have HSZ8 := Lib.hid HB8.out.size
    have k0' := K0.out w6 (HB6.out.trans (hb6'.mono HB6.out.size))
    clear hown6 hg6 hb6' hz0 hz1 hz2 hii ii
    refine hK.out _ _ (fun _ => HB6'.out) (fun hHeld => ?_)
    replace hHeld := hHeld (by kernel_rfl)
    clear hK K
    (repeat (first | simp only [Act.put] | simp only [List.setIfInBounds_toArray] | simp only [List.set_cons_zero] | simp only [List.set_cons_succ]))
    refine AnyL.take (i := 6) (v := ?_) rfl (by kernel_rfl) (by kernel_rfl) (fun _ _ _ h => h) (by kernel_rfl) (by kernel_rfl) (by kernel_rfl) (Or.inl ⟨by rfl, ?_⟩) hHeld ?_
    rotate_left 1
    focus (intro w hSw; (try dsimp only at hSw); go_simp; (try with_reducible rfl))
    (repeat (first | simp only [Act.put] | simp only [List.setIfInBounds_toArray] | simp only [List.set_cons_zero] | simp only [List.set_cons_succ]))
    refine AnyL.one (i := 7) (by kernel_rfl) rfl (fun K hK => ?_)
    have y3 := cell_of (j := 3) k0' rfl
    have fy3 : w6.frozen? ⟨w.heap.size, 3, none⟩ = false := by simp [World.frozen?, k0']
    go_simp
    refine nameG (w := w6.setCell ⟨w.heap.size, 3, none⟩ (.slice A6 (m + 1) c6)) (p := fun W => K _ W) fun w5 hw5 => ?_
    have k5 : w5.heap[w.heap.size]? = some (.cells #[.slice cA n cc, .int .i64 thr, .int .u64 (rng : Int), .slice A6 (m + 1) c6, .slice rA nr rc, .slice oA no oc] 32 (0, 0)) := by
      have hx := Blk_set k0' (j := 3) (.slice A6 (m + 1) c6)
      rw [hw5.out, hx]; rfl
    have hk5 : ∀ q, q ≠ w.heap.size → w5.heap[q]? = w6.heap[q]? := fun q hq => by rw [hw5.out]; exact Below.heap_setCell _ _ _ _ hq
    have hb5 : Below w.heap.size w w5 := by rw [hw5.out]; exact (HW6.out.trans (HB6'.out.mono HW6.out.size)).setCell (Nat.le_refl _) _
    have kz := (hk5 B2 (by omega)).trans (KZ.out w6 (HB6.out.trans (HB6'.out.mono HB6.out.size)))
    have K5 := Lib.hid k5
    have KZ5 := Lib.hid kz
    have HB5 := Lib.hid hb5
    have HK5 := Lib.hid hk5
    clear hw5 k5 hk5 hb5 kz k0' y3 fy3
    refine hK.out _ _ (fun h => nomatch (show true = false from h)) (fun _ => ?_)
    clear hK K
    (try dsimp only)
    refine AnyL.done (by kernel_rfl) ?_
    have r0 := cell_of (j := 0) K5.out rfl
    have r1 := cell_of (j := 1) K5.out rfl
    have r2 := cell_of (j := 2) K5.out rfl
    have r3 := cell_of (j := 3) K5.out rfl
    have r4 := cell_of (j := 4) K5.out rfl
    have r5 := cell_of (j := 5) K5.out rfl
    have m0 := cell_of (j := 0) KZ5.out rfl
    have fm0 : w5.frozen? ⟨B2, 0, none⟩ = false := by simp [World.frozen?, KZ5.out]
    have m1 := cell_of (j := 1) KZ5.out rfl
    have fm1 : w5.frozen? ⟨B2, 1, none⟩ = false := by simp [World.frozen?, KZ5.out]
    have m2 := cell_of (j := 2) KZ5.out rfl
    have fm2 : w5.frozen? ⟨B2, 2, none⟩ = false := by simp [World.frozen?, KZ5.out]
    have m3 := cell_of (j := 3) KZ5.out rfl
    have fm3 : w5.frozen? ⟨B2, 3, none⟩ = false := by simp [World.frozen?, KZ5.out]
    have m4 := cell_of (j := 4) KZ5.out rfl
    have fm4 : w5.frozen? ⟨B2, 4, none⟩ = false := by simp [World.frozen?, KZ5.out]
    have m5 := cell_of (j := 5) KZ5.out rfl
    have fm5 : w5.frozen? ⟨B2, 5, none⟩ = false := by simp [World.frozen?, KZ5.out]
    go_wp2_with fail
    refine nameG (p := fun W => bodyPost Try.prog Try.f20 _ Exit.ret _ W) fun W7 hW7 => ?_
    have hk7 : W7.heap[B2]? = some (.cells #[.slice cA n cc, .int .i64 thr, .int .u64 (rng : Int), .slice A6 (m + 1) c6, .slice rA nr rc, .slice oA no oc] 32 (0, 0)) := by
      have hx := (Blk_set (Blk_set (Blk_set (Blk_set (Blk_set (Blk_set KZ5.out (j := 0) (.slice cA n cc)) (j := 1) (.int .i64 thr)) (j := 2) (.int .u64 (rng : Int))) (j := 3) (.slice A6 (m + 1) c6)) (j := 4) (.slice rA nr rc)) (j := 5) (.slice oA no oc))
      rw [hW7.out, hx]; rfl
    have j0 := cell_of (j := 0) hk7 rfl
    have j1 := cell_of (j := 1) hk7 rfl
    have j2 := cell_of (j := 2) hk7 rfl
    have j3 := cell_of (j := 3) hk7 rfl
    have j4 := cell_of (j := 4) hk7 rfl
    have j5 := cell_of (j := 5) hk7 rfl
    refine bodyPost_ret (v := .tuple #[.agg #[.slice cA n cc, .int .i64 thr, .int .u64 (rng : Int), .slice A6 (m + 1) c6, .slice rA nr rc, .slice oA no oc], .int .i64 0]) (by simp [results, Try.results20, go_sem, j0, j1, j2, j3, j4, j5]) rfl ?_

    have hb7 : Below w.heap.size w W7 := by rw [hW7.out]; exact ((((((HB5.out.setCell (by show w.heap.size ≤ B2; omega) _).setCell (by show w.heap.size ≤ B2; omega) _).setCell (by show w.heap.size ≤ B2; omega) _).setCell (by show w.heap.size ≤ B2; omega) _).setCell (by show w.heap.size ≤ B2; omega) _).setCell (by show w.heap.size ≤ B2; omega) _)
    have hW6w : w.heap.size < W6.heap.size := by have := HB6.out.size; omega
    have hB26 : B2 < W6.heap.size := by have := HB6.out.size; omega
    have hk7 : ∀ q, W6.heap.size ≤ q → W7.heap[q]? = w6.heap[q]? := fun q hq => by
      rw [hW7.out]
      repeat rw [Below.heap_setCell _ _ _ _ (show q ≠ B2 by omega)]
      exact HK5.out q (by omega)
    have hw8g : W6.heap.size ≤ w8.heap.size := HSZ8.out
    have ho7 : W7.ownsRow w8.heap.size 64 2 (.slice A6 (m + 1) c6) (m + 1) (flatF (comC vs b.coms) m 2 ++ [.int .i64 cx, .slice uA ul uc]) := by
      obtain ⟨o1, o2⟩ := HO6.out
      refine ⟨o1, ?_⟩
      rcases o2 with o2 | ⟨q, cap, cur, q1, q2, q3, q4⟩
      · exact .inl o2
      · exact .inr ⟨q, cap, cur, q1, q2, (hk7 q (by omega)).trans q3, q4⟩

    obtain ⟨e1, e2, e3, e4, e5, e6⟩ := HE.out
    have hb69 := hb7
    refine ⟨_, by rw [HQ.out], ?_, hb7⟩
    rw [HQ.out]
    rw [HX.out.1, HX.out.2, e2] at ho7
    have hx3 : ∀ q, w8.heap.size ≤ q → ((fun q => M q ∨ M' q ∨ w.heap.size ≤ q)) q := fun q h => Or.inr (Or.inr (by omega))
    have hrow := coms_snoc (fun i hi => IsSl.below (HVS.out i hi) hb69) (IsSl.below HK.out hb69) (Below.refl _ _) (fun q h => Or.inl h) (fun q h => Or.inr (Or.inl h)) hx3 ho7
    have hcl : IsInts W7 (fun q => M q ∨ M' q ∨ w.heap.size ≤ q) (.slice cA n cc) b.clubs := by rw [e1]; exact IsSl.mono (IsSl.below HI1.out hb7) (fun q _ h => Or.inl h) (by omega)
    rw [← e2] at hrow
    have hrv : IsRevs W7 (fun q => M q ∨ M' q ∨ w.heap.size ≤ q) (.slice rA nr rc) b.revs := by rw [e3]; exact IsSl.mono (IsSl.below HI3.out hb7) (fun q _ h => Or.inl h) (by omega)
    have hop : IsOpns W7 (fun q => M q ∨ M' q ∨ w.heap.size ≤ q) (.slice oA no oc) b.opns := by rw [e4]; exact IsSl.mono (IsSl.below HI4.out hb7) (fun q _ h => Or.inl h) (by omega)
    refine ⟨.slice cA n cc, .slice A6 (m + 1) c6, .slice rA nr rc, .slice oA no oc, ?_, hcl, hrow, hrv, hop⟩
    rw [e5, e6]
end Go.Proofs.Ytgaanndidcdbpaa
/- Reveal. -/
namespace Go.Proofs.Ytgaanndidcdbpaa
open Go.RowKit Go.Shelf

theorem rv1_any {w : World} {g : Nat} {cx : Int} {cy : Nat} (h : w.heap[g]? = some (.cells #[.int .i64 cx, .int .u64 (cy : Int)] 52 (0, 0))) (ax : Int) (ay : Nat) : Calls Try.prog 33 #[.agg #[.int .i64 ax, .int .u64 (ay : Int)], .pointer (some ⟨g, 0, none⟩)] w fun e w' => e = .returned (.bool (ax == cx)) ∧ Below w.heap.size w w' := by
  have hg := lt_heap h
  have c0 := cell_of (j := 0) h rfl
  clear h
  go_enter Try.func33, Try.ntmps33
  go_wp2_with fail
  go_ret
  exact ⟨rfl, (Below.refl _ _).alloc (Nat.le_refl _) _⟩
set_option maxRecDepth 20000 in
set_option maxHeartbeats 8000000 in
theorem reveal_any (w : World) (M : Nat → Prop) (v : Value) (b : BeaD) (r : RevD) (h : IsBea w M v b) (hs : SmallB b) (hc : W64 r.club) (hq : r.num < 18446744073709551616) : Calls Try.prog 15 #[v, .agg #[.int .i64 r.club, .int .u64 (r.num : Int)]] w (BeaE w (fun q => M q ∨ w.heap.size ≤ q) (revealD b r)) := by
  have HBE := Lib.hid h
  have HS := Lib.hid hs
  have HC64 := Lib.hid hc
  obtain ⟨cA, cc, kA, kc, rA, rc, oA, oc, rfl, i1, i2, i3, i4⟩ := h.parts
  have HI1 := Lib.hid i1
  have HI2 := Lib.hid i2
  have HI3 := Lib.hid i3
  have HI4 := Lib.hid i4
  have D1 := Lib.hid (fun (W : World) (hW : Below w.heap.size w W) => Lib.hid (bcheck_any W M _ b (h.below hW) hs))
  have D2 := Lib.hid (fun (W : World) (hW : Below w.heap.size w W) => Lib.hid (open_any W M _ b (h.below hW) hs))
  have D3 := Lib.hid (fun (W : World) (Mb : Nat → Prop) (vb : Value) (hb : IsBoard W Mb vb b) => Lib.hid (revealFits_any W Mb vb b r hb hc hq))
  obtain ⟨fz, hfz⟩ : ∃ z, z = revB b r := ⟨_, rfl⟩
  obtain ⟨hz9, hhz⟩ : ∃ z, z = (List.range b.revs.length).any (fun i => decide ((revN b.revs i).club = r.club)) := ⟨_, rfl⟩
  have D4 := Lib.hid (fun (W : World) (hW : Below w.heap.size w W) (g : Nat) (hg : W.heap[g]? = some (.cells #[.int .i64 r.club, .int .u64 (r.num : Int)] 52 (0, 0))) => Lib.hid (show Calls Try.prog 32 #[.slice rA b.revs.length rc, .func (.func 33) #[] #[.pointer (some ⟨g, 0, none⟩)]] W fun e w' => e = .returned (.bool hz9) ∧ Below W.heap.size W w' by
    obtain ⟨A', c', e, h1, h2, h3⟩ := IsSl.below i3 hW
    cases e
    have y := containsFuncR_any W M rA b.revs.length rc _ (by have := hs.re; omega) h3 33 #[.pointer (some ⟨g, 0, none⟩)] (fun i => ((revN b.revs i).club == r.club)) (enters_of Try.func33 (by kernel_rfl) rfl) (fun i hi wr hwr => rv1_any ((hwr.block _ (lt_heap hg)).trans hg) (revN b.revs i).club (revN b.revs i).num)
    rw [hhz]
    exact y))
  have HHZ := Lib.hid hhz
  have HFZ := Lib.hid hfz
  rw [← hfz] at D3
  obtain ⟨R, hR⟩ : ∃ R, R = revealD b r := ⟨_, rfl⟩
  have HR := Lib.hid hR
  rw [← hR]
  obtain ⟨ck, hck⟩ : ∃ z, z = chkD b := ⟨_, rfl⟩
  have HCK := Lib.hid hck
  rw [← hck] at D1
  have hmb : b.coms.length ≤ 1000 := hs.co
  have hrb : b.revs.length ≤ 1000 := hs.re
  have hob : b.opns.length ≤ 1000 := hs.op
  have hkc : b.coms.length ≤ kc := by obtain ⟨A', c', e, h1, -⟩ := i2.len; cases e; exact h1
  have hrc : b.revs.length ≤ rc := by obtain ⟨A', c', e, h1, -⟩ := id i3; cases e; exact h1
  have hoc : b.opns.length ≤ oc := by obtain ⟨A', c', e, h1, -⟩ := id i4; cases e; exact h1
  clear h hs i1 i2 i3 i4 hfz hR hck hc hq hhz
  obtain ⟨n, hn⟩ : ∃ n, n = b.clubs.length := ⟨_, rfl⟩
  obtain ⟨m, hm⟩ : ∃ n, n = b.coms.length := ⟨_, rfl⟩
  obtain ⟨nr, hnr⟩ : ∃ n, n = b.revs.length := ⟨_, rfl⟩
  obtain ⟨no, hno⟩ : ∃ n, n = b.opns.length := ⟨_, rfl⟩
  obtain ⟨thr, hthr⟩ : ∃ n, n = b.thr := ⟨_, rfl⟩
  obtain ⟨rng, hrng⟩ : ∃ n, n = b.rng := ⟨_, rfl⟩
  obtain ⟨cx, hcx⟩ : ∃ x, x = r.club := ⟨_, rfl⟩
  obtain ⟨cy, hcy⟩ : ∃ x, x = r.num := ⟨_, rfl⟩
  have HE := Lib.hid (And.intro hn (And.intro hm (And.intro hnr (And.intro hno (And.intro hthr hrng)))))
  have HX := Lib.hid (And.intro hcx hcy)
  rw [← hn, ← hm, ← hnr, ← hno, ← hthr, ← hrng, ← hcx, ← hcy]
  (try rw [← hn] at D1)
  (try rw [← hm] at D1)
  (try rw [← hnr] at D1)
  (try rw [← hno] at D1)
  (try rw [← hthr] at D1)
  (try rw [← hrng] at D1)
  (try rw [← hcx] at D1)
  (try rw [← hcy] at D1)
  (try rw [← hn] at D2)
  (try rw [← hm] at D2)
  (try rw [← hnr] at D2)
  (try rw [← hno] at D2)
  (try rw [← hthr] at D2)
  (try rw [← hrng] at D2)
  (try rw [← hcx] at D2)
  (try rw [← hcy] at D2)
  (try rw [← hn] at D3)
  (try rw [← hm] at D3)
  (try rw [← hnr] at D3)
  (try rw [← hno] at D3)
  (try rw [← hthr] at D3)
  (try rw [← hrng] at D3)
  (try rw [← hcx] at D3)
  (try rw [← hcy] at D3)
  (try rw [← hn] at D4)
  (try rw [← hm] at D4)
  (try rw [← hnr] at D4)
  (try rw [← hno] at D4)
  (try rw [← hthr] at D4)
  (try rw [← hrng] at D4)
  (try rw [← hcx] at D4)
  (try rw [← hcy] at D4)
  rw [← hm] at hmb hkc
  rw [← hnr] at hrb hrc
  rw [← hno] at hob hoc
  clear hn hm hnr hno hthr hrng hcx hcy
  go_enter Try.func15, Try.ntmps15
  go_upto_region 1 with fail
  refine nameC fun W1 hW1 => ?_
  have hb1 : Below w.heap.size w W1 := by rw [hW1.out]; exact (((Below.refl _ _).alloc (Nat.le_refl _) _).alloc (by simp) _).alloc (by simp; omega) _
  have k0 : W1.heap[w.heap.size]? = some (.cells #[.slice cA n cc, .int .i64 thr, .int .u64 (rng : Int), .slice kA m kc, .slice rA nr rc, .slice oA no oc] 32 (0, 0)) := by rw [hW1.out]; simp only [heap_alloc_if, World.size_alloc]; rw [if_neg (by omega)]; rw [if_neg (by omega)]; rw [if_pos trivial]
  have k1 : W1.heap[w.heap.size + 1]? = some (.cells #[.int .i64 cx, .int .u64 (cy : Int)] 52 (0, 0)) := by rw [hW1.out]; simp only [heap_alloc_if, World.size_alloc]; rw [if_neg (by omega)]; rw [if_pos trivial]
  have k2 : W1.heap[w.heap.size + 1 + 1]? = some (.cells #[.slice none 0 0, .int .i64 0, .int .u64 0, .slice none 0 0, .slice none 0 0, .slice none 0 0] 32 (0, 0)) := by rw [hW1.out]; simp only [heap_alloc_if, World.size_alloc]; rw [if_pos trivial]
  obtain ⟨B2, hB2⟩ : ∃ B, B = w.heap.size + 1 + 1 := ⟨_, rfl⟩
  rw [← hB2] at k2 ⊢
  obtain ⟨B1, hB1⟩ : ∃ B, B = w.heap.size + 1 := ⟨_, rfl⟩
  rw [← hB1] at k1 ⊢
  have hne1 : w.heap.size < B1 := by omega
  have hne2 : B1 < B2 := by omega
  have HC := Lib.hid (show ∀ W', Below W1.heap.size W1 W' → (W'.cell? ⟨w.heap.size, 0, none⟩ = some (.slice cA n cc) ∧ W'.cell? ⟨w.heap.size, 1, none⟩ = some (.int .i64 thr) ∧ W'.cell? ⟨w.heap.size, 2, none⟩ = some (.int .u64 (rng : Int)) ∧ W'.cell? ⟨w.heap.size, 3, none⟩ = some (.slice kA m kc) ∧ W'.cell? ⟨w.heap.size, 4, none⟩ = some (.slice rA nr rc) ∧ W'.cell? ⟨w.heap.size, 5, none⟩ = some (.slice oA no oc) ∧ W'.cell? ⟨B1, 0, none⟩ = some (.int .i64 cx) ∧ W'.cell? ⟨B1, 1, none⟩ = some (.int .u64 (cy : Int))) from fun W' h => by
    have e0 := (h.block _ (lt_heap k0)).trans k0
    have e1 := (h.block _ (lt_heap k1)).trans k1
    exact ⟨cell_of e0 rfl, cell_of e0 rfl, cell_of e0 rfl, cell_of e0 rfl, cell_of e0 rfl, cell_of e0 rfl, cell_of e1 rfl, cell_of e1 rfl⟩)
  have K0 := Lib.hid (show ∀ W', Below W1.heap.size W1 W' → W'.heap[w.heap.size]? = some (.cells #[.slice cA n cc, .int .i64 thr, .int .u64 (rng : Int), .slice kA m kc, .slice rA nr rc, .slice oA no oc] 32 (0, 0)) from fun W' h => (h.block _ (lt_heap k0)).trans k0)
  have K1 := Lib.hid (show ∀ W', Below W1.heap.size W1 W' → W'.heap[B1]? = some (.cells #[.int .i64 cx, .int .u64 (cy : Int)] 52 (0, 0)) from fun W' h => (h.block _ (lt_heap k1)).trans k1)
  have KZ := Lib.hid (show ∀ W', Below W1.heap.size W1 W' → W'.heap[B2]? = some (.cells #[.slice none 0 0, .int .i64 0, .int .u64 0, .slice none 0 0, .slice none 0 0, .slice none 0 0] 32 (0, 0)) from fun W' h => (h.block _ (lt_heap k2)).trans k2)
  have hsz1 := lt_heap k2
  have HB1 := Lib.hid hb1
  clear hW1 hb1 k0 k1 k2 hB1 hB2
  obtain ⟨c0_0, c0_1, c0_2, c0_3, c0_4, c0_5, c1_0, c1_1⟩ := HC.out _ (Below.refl _ _)
  go_wp2_with fail
  refine (D1.out _ HB1.out).out.mono ?_
  rintro e W2 ⟨rfl, hb⟩
  have HB2 := Lib.hid hb
  clear hb
  clear c0_0 c0_1 c0_2 c0_3 c0_4 c0_5 c1_0 c1_1
  obtain ⟨c0_0, c0_1, c0_2, c0_3, c0_4, c0_5, c1_0, c1_1⟩ := HC.out _ HB2.out
  by_cases t0 : ck = 0
  case neg =>
    have b0 : (ck != 0) = true := by rw [bne_iff_ne]; exact t0
    have HQ := Lib.hid (show R = (bea0, ck) by rw [HR.out]; unfold revealD; rw [← HCK.out, if_neg t0])
    clear t0
    have kz := KZ.out W2 HB2.out
    have m0 := cell_of (j := 0) kz rfl
    have fm0 : W2.frozen? ⟨B2, 0, none⟩ = false := by simp [World.frozen?, kz]
    have m1 := cell_of (j := 1) kz rfl
    have fm1 : W2.frozen? ⟨B2, 1, none⟩ = false := by simp [World.frozen?, kz]
    have m2 := cell_of (j := 2) kz rfl
    have fm2 : W2.frozen? ⟨B2, 2, none⟩ = false := by simp [World.frozen?, kz]
    have m3 := cell_of (j := 3) kz rfl
    have fm3 : W2.frozen? ⟨B2, 3, none⟩ = false := by simp [World.frozen?, kz]
    have m4 := cell_of (j := 4) kz rfl
    have fm4 : W2.frozen? ⟨B2, 4, none⟩ = false := by simp [World.frozen?, kz]
    have m5 := cell_of (j := 5) kz rfl
    have fm5 : W2.frozen? ⟨B2, 5, none⟩ = false := by simp [World.frozen?, kz]
    go_wp2_with fail
    refine nameG (p := fun W => bodyPost Try.prog Try.f15 _ Exit.ret _ W) fun W7 hW7 => ?_
    have hk7 : W7.heap[B2]? = some (.cells #[.slice none 0 0, .int .i64 0, .int .u64 0, .slice none 0 0, .slice none 0 0, .slice none 0 0] 32 (0, 0)) := by
      have hx := (Blk_set (Blk_set (Blk_set (Blk_set (Blk_set (Blk_set kz (j := 0) (.slice none 0 0)) (j := 1) (.int .i64 0)) (j := 2) (.int .u64 0)) (j := 3) (.slice none 0 0)) (j := 4) (.slice none 0 0)) (j := 5) (.slice none 0 0))
      rw [hW7.out, hx]; rfl
    have j0 := cell_of (j := 0) hk7 rfl
    have j1 := cell_of (j := 1) hk7 rfl
    have j2 := cell_of (j := 2) hk7 rfl
    have j3 := cell_of (j := 3) hk7 rfl
    have j4 := cell_of (j := 4) hk7 rfl
    have j5 := cell_of (j := 5) hk7 rfl
    refine bodyPost_ret (v := .tuple #[.agg #[.slice none 0 0, .int .i64 0, .int .u64 0, .slice none 0 0, .slice none 0 0, .slice none 0 0], .int .i64 ck]) (by simp [results, Try.results15, go_sem, j0, j1, j2, j3, j4, j5]) rfl ?_
    refine ⟨_, by rw [HQ.out], by rw [HQ.out]; exact IsBea.zero, ?_⟩
    rw [hW7.out]
    exact (((((((HB1.out.trans (HB2.out.mono HB1.out.size)).setCell (by show w.heap.size ≤ B2; omega) _).setCell (by show w.heap.size ≤ B2; omega) _).setCell (by show w.heap.size ≤ B2; omega) _).setCell (by show w.heap.size ≤ B2; omega) _).setCell (by show w.heap.size ≤ B2; omega) _).setCell (by show w.heap.size ≤ B2; omega) _)
  have b0 : (ck != 0) = false := by rw [bne_eq_false_iff_eq]; exact t0
  have HR2 := Lib.hid (show R = if !doneB b || hz9 then (bea0, 240) else if fz then ({b with revs := b.revs ++ [r]}, 0) else (bea0, 241) by rw [HR.out]; unfold revealD; rw [← HCK.out, if_pos t0, ← HFZ.out, ← HHZ.out])
  clear t0
  go_wp2_with fail
  refine (D2.out _ (HB1.out.trans (HB2.out.mono HB1.out.size))).out.mono ?_
  rintro e W3 ⟨v3, rfl, hbd, hb⟩
  have HBD := Lib.hid hbd
  have HB3 := Lib.hid (HB2.out.trans (hb.mono HB2.out.size))
  obtain ⟨dA, dc, lA, lc, sA, sc, pA, pc, bp, bc, rfl, -, -, -, -, hbm⟩ := hbd.parts
  have HBM := Lib.hid hbm
  obtain ⟨dz, hdz⟩ : ∃ z, z = doneB b := ⟨_, rfl⟩
  rw [← HE.out.1, ← HE.out.2.1, ← HE.out.2.2.1, ← HE.out.2.2.2.1, ← HE.out.2.2.2.2.1, ← HE.out.2.2.2.2.2, ← hdz] at HBD ⊢
  rw [← hdz] at HR2
  clear hbd hb hbm D1 D2 hdz
  clear c0_0 c0_1 c0_2 c0_3 c0_4 c0_5 c1_0 c1_1
  obtain ⟨c0_0, c0_1, c0_2, c0_3, c0_4, c0_5, c1_0, c1_1⟩ := HC.out _ HB3.out
  go_upto_region 5 with fail
  refine nameC fun W4 hW4 => ?_
  have hb4 : Below W3.heap.size W3 W4 := by rw [hW4.out]; exact (Below.refl _ _).alloc (Nat.le_refl _) _
  have k4 : W4.heap[W3.heap.size]? = some (.cells #[.slice dA n dc, .int .i64 thr, .int .u64 (rng : Int), .slice lA m lc, .slice sA nr sc, .slice pA no pc, .map (some bp), .map (some bc), .bool dz] 89 (0, 0)) := by rw [hW4.out]; exact heap_alloc_new _ _
  obtain ⟨g4, hg4⟩ : ∃ g, g = W3.heap.size := ⟨_, rfl⟩
  rw [← hg4] at k4 ⊢
  have K4 := Lib.hid k4
  have HB4 := Lib.hid (HB3.out.trans (hb4.mono HB3.out.size))
  have HBD4 := Lib.hid (HBD.out.below hb4)
  have HBM4 := Lib.hid (HBM.out.below hb4)
  clear hW4 hb4 k4 hg4 HBD HBM
  clear c0_0 c0_1 c0_2 c0_3 c0_4 c0_5 c1_0 c1_1
  obtain ⟨c0_0, c0_1, c0_2, c0_3, c0_4, c0_5, c1_0, c1_1⟩ := HC.out _ HB4.out
  have q0 := cell_of (j := 0) K4.out rfl
  have q1 := cell_of (j := 1) K4.out rfl
  have q2 := cell_of (j := 2) K4.out rfl
  have q3 := cell_of (j := 3) K4.out rfl
  have q4 := cell_of (j := 4) K4.out rfl
  have q5 := cell_of (j := 5) K4.out rfl
  have q6 := cell_of (j := 6) K4.out rfl
  have q7 := cell_of (j := 7) K4.out rfl
  have q8 := cell_of (j := 8) K4.out rfl
  cases dz
  · have HQ := Lib.hid (show R = (bea0, 240) by rw [HR2.out]; rfl)
    clear q0 q1 q2 q3 q4 q5 q6 q7
    clear c0_0 c0_1 c0_2 c0_3 c0_4 c0_5 c1_0 c1_1
    have kz := KZ.out W4 HB4.out
    have m0 := cell_of (j := 0) kz rfl
    have fm0 : W4.frozen? ⟨B2, 0, none⟩ = false := by simp [World.frozen?, kz]
    have m1 := cell_of (j := 1) kz rfl
    have fm1 : W4.frozen? ⟨B2, 1, none⟩ = false := by simp [World.frozen?, kz]
    have m2 := cell_of (j := 2) kz rfl
    have fm2 : W4.frozen? ⟨B2, 2, none⟩ = false := by simp [World.frozen?, kz]
    have m3 := cell_of (j := 3) kz rfl
    have fm3 : W4.frozen? ⟨B2, 3, none⟩ = false := by simp [World.frozen?, kz]
    have m4 := cell_of (j := 4) kz rfl
    have fm4 : W4.frozen? ⟨B2, 4, none⟩ = false := by simp [World.frozen?, kz]
    have m5 := cell_of (j := 5) kz rfl
    have fm5 : W4.frozen? ⟨B2, 5, none⟩ = false := by simp [World.frozen?, kz]
    go_wp2_with fail
    refine nameG (p := fun W => bodyPost Try.prog Try.f15 _ Exit.ret _ W) fun W7 hW7 => ?_
    have hk7 : W7.heap[B2]? = some (.cells #[.slice none 0 0, .int .i64 0, .int .u64 0, .slice none 0 0, .slice none 0 0, .slice none 0 0] 32 (0, 0)) := by
      have hx := (Blk_set (Blk_set (Blk_set (Blk_set (Blk_set (Blk_set kz (j := 0) (.slice none 0 0)) (j := 1) (.int .i64 0)) (j := 2) (.int .u64 0)) (j := 3) (.slice none 0 0)) (j := 4) (.slice none 0 0)) (j := 5) (.slice none 0 0))
      rw [hW7.out, hx]; rfl
    have j0 := cell_of (j := 0) hk7 rfl
    have j1 := cell_of (j := 1) hk7 rfl
    have j2 := cell_of (j := 2) hk7 rfl
    have j3 := cell_of (j := 3) hk7 rfl
    have j4 := cell_of (j := 4) hk7 rfl
    have j5 := cell_of (j := 5) hk7 rfl
    refine bodyPost_ret (v := .tuple #[.agg #[.slice none 0 0, .int .i64 0, .int .u64 0, .slice none 0 0, .slice none 0 0, .slice none 0 0], .int .i64 240]) (by simp [results, Try.results15, go_sem, j0, j1, j2, j3, j4, j5]) rfl ?_
    refine ⟨_, by rw [HQ.out], by rw [HQ.out]; exact IsBea.zero, ?_⟩
    rw [hW7.out]
    exact (((((((HB1.out.trans (HB4.out.mono HB1.out.size)).setCell (by show w.heap.size ≤ B2; omega) _).setCell (by show w.heap.size ≤ B2; omega) _).setCell (by show w.heap.size ≤ B2; omega) _).setCell (by show w.heap.size ≤ B2; omega) _).setCell (by show w.heap.size ≤ B2; omega) _).setCell (by show w.heap.size ≤ B2; omega) _)
  go_wp2_with fail
  refine (D4.out _ (HB1.out.trans (HB4.out.mono HB1.out.size)) B1 (K1.out _ HB4.out)).out.mono ?_
  rintro e W5 ⟨rfl, hb⟩
  have k5 := (hb.block _ (lt_heap K4.out)).trans K4.out
  have HB5 := Lib.hid (HB4.out.trans (hb.mono HB4.out.size))
  have HBD5 := Lib.hid (HBD4.out.below hb)
  clear hb q0 q1 q2 q3 q4 q5 q6 q7 q8
  clear c0_0 c0_1 c0_2 c0_3 c0_4 c0_5 c1_0 c1_1
  obtain ⟨c0_0, c0_1, c0_2, c0_3, c0_4, c0_5, c1_0, c1_1⟩ := HC.out _ HB5.out
  have q0 := cell_of (j := 0) k5 rfl
  have q1 := cell_of (j := 1) k5 rfl
  have q2 := cell_of (j := 2) k5 rfl
  have q3 := cell_of (j := 3) k5 rfl
  have q4 := cell_of (j := 4) k5 rfl
  have q5 := cell_of (j := 5) k5 rfl
  have q6 := cell_of (j := 6) k5 rfl
  have q7 := cell_of (j := 7) k5 rfl
  have q8 := cell_of (j := 8) k5 rfl
  clear k5
  cases hz9
  case true =>
    have HQ := Lib.hid (show R = (bea0, 240) by rw [HR2.out]; rfl)
    clear q0 q1 q2 q3 q4 q5 q6 q7 q8
    clear c0_0 c0_1 c0_2 c0_3 c0_4 c0_5 c1_0 c1_1
    have kz := KZ.out W5 HB5.out
    have m0 := cell_of (j := 0) kz rfl
    have fm0 : W5.frozen? ⟨B2, 0, none⟩ = false := by simp [World.frozen?, kz]
    have m1 := cell_of (j := 1) kz rfl
    have fm1 : W5.frozen? ⟨B2, 1, none⟩ = false := by simp [World.frozen?, kz]
    have m2 := cell_of (j := 2) kz rfl
    have fm2 : W5.frozen? ⟨B2, 2, none⟩ = false := by simp [World.frozen?, kz]
    have m3 := cell_of (j := 3) kz rfl
    have fm3 : W5.frozen? ⟨B2, 3, none⟩ = false := by simp [World.frozen?, kz]
    have m4 := cell_of (j := 4) kz rfl
    have fm4 : W5.frozen? ⟨B2, 4, none⟩ = false := by simp [World.frozen?, kz]
    have m5 := cell_of (j := 5) kz rfl
    have fm5 : W5.frozen? ⟨B2, 5, none⟩ = false := by simp [World.frozen?, kz]
    go_wp2_with fail
    refine nameG (p := fun W => bodyPost Try.prog Try.f15 _ Exit.ret _ W) fun W7 hW7 => ?_
    have hk7 : W7.heap[B2]? = some (.cells #[.slice none 0 0, .int .i64 0, .int .u64 0, .slice none 0 0, .slice none 0 0, .slice none 0 0] 32 (0, 0)) := by
      have hx := (Blk_set (Blk_set (Blk_set (Blk_set (Blk_set (Blk_set kz (j := 0) (.slice none 0 0)) (j := 1) (.int .i64 0)) (j := 2) (.int .u64 0)) (j := 3) (.slice none 0 0)) (j := 4) (.slice none 0 0)) (j := 5) (.slice none 0 0))
      rw [hW7.out, hx]; rfl
    have j0 := cell_of (j := 0) hk7 rfl
    have j1 := cell_of (j := 1) hk7 rfl
    have j2 := cell_of (j := 2) hk7 rfl
    have j3 := cell_of (j := 3) hk7 rfl
    have j4 := cell_of (j := 4) hk7 rfl
    have j5 := cell_of (j := 5) hk7 rfl
    refine bodyPost_ret (v := .tuple #[.agg #[.slice none 0 0, .int .i64 0, .int .u64 0, .slice none 0 0, .slice none 0 0, .slice none 0 0], .int .i64 240]) (by simp [results, Try.results15, go_sem, j0, j1, j2, j3, j4, j5]) rfl ?_
    refine ⟨_, by rw [HQ.out], by rw [HQ.out]; exact IsBea.zero, ?_⟩
    rw [hW7.out]
    exact (((((((HB1.out.trans (HB5.out.mono HB1.out.size)).setCell (by show w.heap.size ≤ B2; omega) _).setCell (by show w.heap.size ≤ B2; omega) _).setCell (by show w.heap.size ≤ B2; omega) _).setCell (by show w.heap.size ≤ B2; omega) _).setCell (by show w.heap.size ≤ B2; omega) _).setCell (by show w.heap.size ≤ B2; omega) _)
  go_wp2_with fail
  refine (D3.out _ _ _ HBD5.out).out.mono ?_
  rintro e W6 ⟨rfl, hb⟩
  have HB6 := Lib.hid (HB5.out.trans (hb.mono HB5.out.size))
  clear hb q0 q1 q2 q3 q4 q5 q6 q7 q8
  clear c0_0 c0_1 c0_2 c0_3 c0_4 c0_5 c1_0 c1_1
  cases fz
  · have HQ := Lib.hid (show R = (bea0, 241) by rw [HR2.out]; rfl)
    have kz := KZ.out W6 HB6.out
    have m0 := cell_of (j := 0) kz rfl
    have fm0 : W6.frozen? ⟨B2, 0, none⟩ = false := by simp [World.frozen?, kz]
    have m1 := cell_of (j := 1) kz rfl
    have fm1 : W6.frozen? ⟨B2, 1, none⟩ = false := by simp [World.frozen?, kz]
    have m2 := cell_of (j := 2) kz rfl
    have fm2 : W6.frozen? ⟨B2, 2, none⟩ = false := by simp [World.frozen?, kz]
    have m3 := cell_of (j := 3) kz rfl
    have fm3 : W6.frozen? ⟨B2, 3, none⟩ = false := by simp [World.frozen?, kz]
    have m4 := cell_of (j := 4) kz rfl
    have fm4 : W6.frozen? ⟨B2, 4, none⟩ = false := by simp [World.frozen?, kz]
    have m5 := cell_of (j := 5) kz rfl
    have fm5 : W6.frozen? ⟨B2, 5, none⟩ = false := by simp [World.frozen?, kz]
    go_wp2_with fail
    refine nameG (p := fun W => bodyPost Try.prog Try.f15 _ Exit.ret _ W) fun W7 hW7 => ?_
    have hk7 : W7.heap[B2]? = some (.cells #[.slice none 0 0, .int .i64 0, .int .u64 0, .slice none 0 0, .slice none 0 0, .slice none 0 0] 32 (0, 0)) := by
      have hx := (Blk_set (Blk_set (Blk_set (Blk_set (Blk_set (Blk_set kz (j := 0) (.slice none 0 0)) (j := 1) (.int .i64 0)) (j := 2) (.int .u64 0)) (j := 3) (.slice none 0 0)) (j := 4) (.slice none 0 0)) (j := 5) (.slice none 0 0))
      rw [hW7.out, hx]; rfl
    have j0 := cell_of (j := 0) hk7 rfl
    have j1 := cell_of (j := 1) hk7 rfl
    have j2 := cell_of (j := 2) hk7 rfl
    have j3 := cell_of (j := 3) hk7 rfl
    have j4 := cell_of (j := 4) hk7 rfl
    have j5 := cell_of (j := 5) hk7 rfl
    refine bodyPost_ret (v := .tuple #[.agg #[.slice none 0 0, .int .i64 0, .int .u64 0, .slice none 0 0, .slice none 0 0, .slice none 0 0], .int .i64 241]) (by simp [results, Try.results15, go_sem, j0, j1, j2, j3, j4, j5]) rfl ?_
    refine ⟨_, by rw [HQ.out], by rw [HQ.out]; exact IsBea.zero, ?_⟩
    rw [hW7.out]
    exact (((((((HB1.out.trans (HB6.out.mono HB1.out.size)).setCell (by show w.heap.size ≤ B2; omega) _).setCell (by show w.heap.size ≤ B2; omega) _).setCell (by show w.heap.size ≤ B2; omega) _).setCell (by show w.heap.size ≤ B2; omega) _).setCell (by show w.heap.size ≤ B2; omega) _).setCell (by show w.heap.size ≤ B2; omega) _)
  have HQ := Lib.hid (show R = ({b with revs := b.revs ++ [r]}, 0) by rw [HR2.out]; rfl)
  obtain ⟨A', c', e, -, -, hcells⟩ := id HI3.out
  obtain ⟨e4, -, e5⟩ := Value.slice.inj e
  subst e4 e5
  rw [← HE.out.2.2.1] at hcells
  have HCE := Lib.hid hcells
  have HNA := Lib.hid (show rA = none → nr = 0 from fun hA => by
    rcases Nat.eq_zero_or_pos nr with h0 | h0
    · exact h0
    · obtain ⟨b', off', e', -⟩ := hcells h0
      rw [hA] at e'; cases e')
  have HW6 := Lib.hid (HB1.out.trans (HB6.out.mono HB1.out.size))
  clear e hcells
  have hb6s := HB6.out.size
  go_upto_region 9 with fail
  refine anyL_begin (z := 7) (S := fun W9 => Below W6.heap.size W6 W9) (by kernel_rfl) (Below.drew (Below.refl _ _)) (fun hHeld => ?_)
  refine AnyL.take (i := 0) (v := ?_) rfl (by kernel_rfl) (by kernel_rfl) (fun _ _ _ h => h) (by kernel_rfl) (by kernel_rfl) (by kernel_rfl) (Or.inl ⟨by rfl, ?_⟩) hHeld ?_
  rotate_left 1
  focus (intro w hSw; (try dsimp only at hSw); go_simp; (try with_reducible rfl))
  (repeat (first | simp only [Act.put] | simp only [List.setIfInBounds_toArray] | simp only [List.set_cons_zero] | simp only [List.set_cons_succ]))
  refine AnyL.take (i := 1) (v := ?_) rfl (by kernel_rfl) (by kernel_rfl) (fun _ _ _ h => h) (by kernel_rfl) (by kernel_rfl) (by kernel_rfl) (Or.inl ⟨by rfl, ?_⟩) hHeld ?_
  rotate_left 1
  focus (intro w hSw; (try dsimp only at hSw); obtain ⟨c0_0, c0_1, c0_2, c0_3, c0_4, c0_5, c1_0, c1_1⟩ := HC.out w (HB6.out.trans (Below.mono hSw HB6.out.size)); go_simp; (try with_reducible rfl))
  (repeat (first | simp only [Act.put] | simp only [List.setIfInBounds_toArray] | simp only [List.set_cons_zero] | simp only [List.set_cons_succ]))
  refine AnyL.take (i := 3) (v := ?_) rfl (by kernel_rfl) (by kernel_rfl) (fun _ _ _ h => h) (by kernel_rfl) (by kernel_rfl) (by kernel_rfl) (Or.inl ⟨by rfl, ?_⟩) hHeld ?_
  rotate_left 1
  focus (intro w hSw; (try dsimp only at hSw); obtain ⟨c0_0, c0_1, c0_2, c0_3, c0_4, c0_5, c1_0, c1_1⟩ := HC.out w (HB6.out.trans (Below.mono hSw HB6.out.size)); go_simp; (try with_reducible rfl))
  (repeat (first | simp only [Act.put] | simp only [List.setIfInBounds_toArray] | simp only [List.set_cons_zero] | simp only [List.set_cons_succ]))
  refine AnyL.two (i := 2) (j := 4) (by kernel_rfl) rfl rfl (fun K hK => ?_) (fun K hK => ?_)
  · skip
    go_simp
    go_at_call 35
    refine (clipR_any _ _ _ _ hrb hrc).mono ?_
    rintro e w9 ⟨rfl, hb9⟩
    have HB9 : Hid (Below W6.heap.size W6 w9) := Lib.hid ((show Below W6.heap.size W6 _ from (Below.drew (Below.refl _ _))).trans (hb9.mono (show Below W6.heap.size W6 _ from (Below.drew (Below.refl _ _))).size))
    clear hb9
    refine hK.out _ _ (fun _ => HB9.out) (fun hHeld => ?_)
    replace hHeld := hHeld (by kernel_rfl)
    clear hK K
    (repeat (first | simp only [Act.put] | simp only [List.setIfInBounds_toArray] | simp only [List.set_cons_zero] | simp only [List.set_cons_succ]))
    refine AnyL.one (i := 4) (by kernel_rfl) rfl (fun K hK => ?_)
    go_simp
    refine nameG (w := w9.alloc (.cells #[.int .i64 cx, .int .u64 (cy : Int)] 52)) (p := fun W => K _ W) fun w8 hw8 => ?_
    have hn8 : w8.heap[w9.heap.size]? = some (.cells #[.int .i64 cx, .int .u64 (cy : Int)] 52 (0, 0)) := by rw [hw8.out]; exact heap_alloc_new _ _
    have hb8 : Below W6.heap.size W6 w8 := by rw [hw8.out]; exact HB9.out.alloc HB9.out.size _
    have HN8 := Lib.hid hn8
    have HB8 := Lib.hid hb8
    obtain ⟨gn, hgn⟩ : ∃ g, g = w9.heap.size := ⟨_, rfl⟩
    rw [← hgn] at HN8 ⊢
    clear hw8 hn8 hb8 hgn HB9
    refine hK.out _ _ (fun _ => HB8.out) (fun hHeld => ?_)
    replace hHeld := hHeld (by kernel_rfl)
    clear hK K
    (repeat (first | simp only [Act.put] | simp only [List.setIfInBounds_toArray] | simp only [List.set_cons_zero] | simp only [List.set_cons_succ]))
    refine AnyL.one (i := 5) (by kernel_rfl) rfl (fun K hK => ?_)
    obtain ⟨ii, hii, hz0, hz1, hz2⟩ := info_parts Try.infoRev
    refine step_grow rfl (.tmp 33) (.tmp 35) 29 rfl 52 ii _ 2 16 Try.underlying29 hii hz0 hz1 hz2 rfl (by decide) rA nr (flatF (fun i j => revC (revN b.revs i) j) nr 2) rfl (flatF_len _ _ _) HNA.out (flatF_holds (Cells.keep HCE.out fun p _ hp => (HW6.out.trans (HB8.out.mono HW6.out.size)).cell hp) (by decide)) gn [.int .i64 cx, .int .u64 (cy : Int)] rfl rfl (fun j u hj => ?_) (by simp [Value.oneCell']) (by unfold maxLen; omega) (by omega) ?_
    · rw [addr_add, Nat.zero_add]
      exact cell_of HN8.out (by simpa using hj)
    intro v6 w6 hown6 hg6
    obtain ⟨A6, c6, rfl⟩ := own_sl hown6
    have hb6' : Below W6.heap.size W6 w6 := HB8.out.grown hg6 HB8.out.size (fun q e => by cases e)
    have HB6' := Lib.hid hb6'
    have HO6 := Lib.hid hown6
    have HSZ8 := Lib.hid HB8.out.size
    have k0' := K0.out w6 (HB6.out.trans (hb6'.mono HB6.out.size))
    clear hown6 hg6 hb6' hz0 hz1 hz2 hii ii
    refine hK.out _ _ (fun _ => HB6'.out) (fun hHeld => ?_)
    replace hHeld := hHeld (by kernel_rfl)
    clear hK K
    (repeat (first | simp only [Act.put] | simp only [List.setIfInBounds_toArray] | simp only [List.set_cons_zero] | simp only [List.set_cons_succ]))
    refine AnyL.take (i := 6) (v := ?_) rfl (by kernel_rfl) (by kernel_rfl) (fun _ _ _ h => h) (by kernel_rfl) (by kernel_rfl) (by kernel_rfl) (Or.inl ⟨by rfl, ?_⟩) hHeld ?_
    rotate_left 1
    focus (intro w hSw; (try dsimp only at hSw); go_simp; (try with_reducible rfl))
    (repeat (first | simp only [Act.put] | simp only [List.setIfInBounds_toArray] | simp only [List.set_cons_zero] | simp only [List.set_cons_succ]))
    refine AnyL.one (i := 7) (by kernel_rfl) rfl (fun K hK => ?_)
    have y3 := cell_of (j := 4) k0' rfl
    have fy3 : w6.frozen? ⟨w.heap.size, 4, none⟩ = false := by simp [World.frozen?, k0']
    go_simp
    refine nameG (w := w6.setCell ⟨w.heap.size, 4, none⟩ (.slice A6 (nr + 1) c6)) (p := fun W => K _ W) fun w5 hw5 => ?_
    have k5 : w5.heap[w.heap.size]? = some (.cells #[.slice cA n cc, .int .i64 thr, .int .u64 (rng : Int), .slice kA m kc, .slice A6 (nr + 1) c6, .slice oA no oc] 32 (0, 0)) := by
      have hx := Blk_set k0' (j := 4) (.slice A6 (nr + 1) c6)
      rw [hw5.out, hx]; rfl
    have hk5 : ∀ q, q ≠ w.heap.size → w5.heap[q]? = w6.heap[q]? := fun q hq => by rw [hw5.out]; exact Below.heap_setCell _ _ _ _ hq
    have hb5 : Below w.heap.size w w5 := by rw [hw5.out]; exact (HW6.out.trans (HB6'.out.mono HW6.out.size)).setCell (Nat.le_refl _) _
    have kz := (hk5 B2 (by omega)).trans (KZ.out w6 (HB6.out.trans (HB6'.out.mono HB6.out.size)))
    have K5 := Lib.hid k5
    have KZ5 := Lib.hid kz
    have HB5 := Lib.hid hb5
    have HK5 := Lib.hid hk5
    clear hw5 k5 hk5 hb5 kz k0' y3 fy3
    refine hK.out _ _ (fun h => nomatch (show true = false from h)) (fun _ => ?_)
    clear hK K
    (try dsimp only)
    refine AnyL.done (by kernel_rfl) ?_
    have r0 := cell_of (j := 0) K5.out rfl
    have r1 := cell_of (j := 1) K5.out rfl
    have r2 := cell_of (j := 2) K5.out rfl
    have r3 := cell_of (j := 3) K5.out rfl
    have r4 := cell_of (j := 4) K5.out rfl
    have r5 := cell_of (j := 5) K5.out rfl
    have m0 := cell_of (j := 0) KZ5.out rfl
    have fm0 : w5.frozen? ⟨B2, 0, none⟩ = false := by simp [World.frozen?, KZ5.out]
    have m1 := cell_of (j := 1) KZ5.out rfl
    have fm1 : w5.frozen? ⟨B2, 1, none⟩ = false := by simp [World.frozen?, KZ5.out]
    have m2 := cell_of (j := 2) KZ5.out rfl
    have fm2 : w5.frozen? ⟨B2, 2, none⟩ = false := by simp [World.frozen?, KZ5.out]
    have m3 := cell_of (j := 3) KZ5.out rfl
    have fm3 : w5.frozen? ⟨B2, 3, none⟩ = false := by simp [World.frozen?, KZ5.out]
    have m4 := cell_of (j := 4) KZ5.out rfl
    have fm4 : w5.frozen? ⟨B2, 4, none⟩ = false := by simp [World.frozen?, KZ5.out]
    have m5 := cell_of (j := 5) KZ5.out rfl
    have fm5 : w5.frozen? ⟨B2, 5, none⟩ = false := by simp [World.frozen?, KZ5.out]
    go_wp2_with fail
    refine nameG (p := fun W => bodyPost Try.prog Try.f15 _ Exit.ret _ W) fun W7 hW7 => ?_
    have hk7 : W7.heap[B2]? = some (.cells #[.slice cA n cc, .int .i64 thr, .int .u64 (rng : Int), .slice kA m kc, .slice A6 (nr + 1) c6, .slice oA no oc] 32 (0, 0)) := by
      have hx := (Blk_set (Blk_set (Blk_set (Blk_set (Blk_set (Blk_set KZ5.out (j := 0) (.slice cA n cc)) (j := 1) (.int .i64 thr)) (j := 2) (.int .u64 (rng : Int))) (j := 3) (.slice kA m kc)) (j := 4) (.slice A6 (nr + 1) c6)) (j := 5) (.slice oA no oc))
      rw [hW7.out, hx]; rfl
    have j0 := cell_of (j := 0) hk7 rfl
    have j1 := cell_of (j := 1) hk7 rfl
    have j2 := cell_of (j := 2) hk7 rfl
    have j3 := cell_of (j := 3) hk7 rfl
    have j4 := cell_of (j := 4) hk7 rfl
    have j5 := cell_of (j := 5) hk7 rfl
    refine bodyPost_ret (v := .tuple #[.agg #[.slice cA n cc, .int .i64 thr, .int .u64 (rng : Int), .slice kA m kc, .slice A6 (nr + 1) c6, .slice oA no oc], .int .i64 0]) (by simp [results, Try.results15, go_sem, j0, j1, j2, j3, j4, j5]) rfl ?_

    have hb7 : Below w.heap.size w W7 := by rw [hW7.out]; exact ((((((HB5.out.setCell (by show w.heap.size ≤ B2; omega) _).setCell (by show w.heap.size ≤ B2; omega) _).setCell (by show w.heap.size ≤ B2; omega) _).setCell (by show w.heap.size ≤ B2; omega) _).setCell (by show w.heap.size ≤ B2; omega) _).setCell (by show w.heap.size ≤ B2; omega) _)
    have hW6w : w.heap.size < W6.heap.size := by have := HB6.out.size; omega
    have hB26 : B2 < W6.heap.size := by have := HB6.out.size; omega
    have hk7 : ∀ q, W6.heap.size ≤ q → W7.heap[q]? = w6.heap[q]? := fun q hq => by
      rw [hW7.out]
      repeat rw [Below.heap_setCell _ _ _ _ (show q ≠ B2 by omega)]
      exact HK5.out q (by omega)
    have hw8g : W6.heap.size ≤ w8.heap.size := HSZ8.out
    have ho7 : W7.ownsRow w8.heap.size 52 2 (.slice A6 (nr + 1) c6) (nr + 1) (flatF (fun i j => revC (revN b.revs i) j) nr 2 ++ [.int .i64 cx, .int .u64 (cy : Int)]) := by
      obtain ⟨o1, o2⟩ := HO6.out
      refine ⟨o1, ?_⟩
      rcases o2 with o2 | ⟨q, cap, cur, q1, q2, q3, q4⟩
      · exact .inl o2
      · exact .inr ⟨q, cap, cur, q1, q2, (hk7 q (by omega)).trans q3, q4⟩

    obtain ⟨e1, e2, e3, e4, e5, e6⟩ := HE.out
    have hb69 := hb7
    refine ⟨_, by rw [HQ.out], ?_, hb7⟩
    rw [HQ.out]
    rw [HX.out.1, HX.out.2, e3] at ho7
    have hx3 : ∀ q, w8.heap.size ≤ q → ((fun q => M q ∨ w.heap.size ≤ q)) q := fun q h => Or.inr (by omega)
    have hrow := revs_snoc hx3 ho7
    have hcl : IsInts W7 (fun q => M q ∨ w.heap.size ≤ q) (.slice cA n cc) b.clubs := by rw [e1]; exact IsSl.mono (IsSl.below HI1.out hb7) (fun q _ h => Or.inl h) (by omega)
    rw [← e3] at hrow
    have hcm : IsComs W7 (fun q => M q ∨ w.heap.size ≤ q) (.slice kA m kc) b.coms := by rw [e2]; exact (HI2.out.below hb7).mono (fun q _ h => Or.inl h)
    have hop : IsOpns W7 (fun q => M q ∨ w.heap.size ≤ q) (.slice oA no oc) b.opns := by rw [e4]; exact IsSl.mono (IsSl.below HI4.out hb7) (fun q _ h => Or.inl h) (by omega)
    refine ⟨.slice cA n cc, .slice kA m kc, .slice A6 (nr + 1) c6, .slice oA no oc, ?_, hcl, hcm, hrow, hop⟩
    rw [e5, e6]
  · skip
    go_simp
    refine nameG (w := W6.drew.alloc (.cells #[.int .i64 cx, .int .u64 (cy : Int)] 52)) (p := fun W => K _ W) fun w9 hw9 => ?_
    have hn8 : w9.heap[W6.heap.size]? = some (.cells #[.int .i64 cx, .int .u64 (cy : Int)] 52 (0, 0)) := by rw [hw9.out]; exact heap_alloc_new W6.drew _
    have HB9 : Hid (Below W6.heap.size W6 w9) := Lib.hid (by rw [hw9.out]; exact (Below.drew (Below.refl _ _)).alloc (Nat.le_refl _) _)
    have HN9 := Lib.hid hn8
    obtain ⟨gn, hgn⟩ : ∃ g, g = W6.heap.size := ⟨_, rfl⟩
    rw [← hgn]
    rw [← hgn] at HN9
    clear hw9 hn8 hgn
    refine hK.out _ _ (fun _ => HB9.out) (fun hHeld => ?_)
    replace hHeld := hHeld (by kernel_rfl)
    clear hK K
    (repeat (first | simp only [Act.put] | simp only [List.setIfInBounds_toArray] | simp only [List.set_cons_zero] | simp only [List.set_cons_succ]))
    refine AnyL.one (i := 2) (by kernel_rfl) rfl (fun K hK => ?_)
    go_simp
    go_at_call 35
    refine (clipR_any _ _ _ _ hrb hrc).mono ?_
    rintro e w8 ⟨rfl, hb9⟩
    have HB8 : Hid (Below W6.heap.size W6 w8) := Lib.hid (HB9.out.trans (hb9.mono HB9.out.size))
    have HN8 := Lib.hid ((hb9.block _ (lt_heap HN9.out)).trans HN9.out)
    clear hb9 HN9 HB9
    refine hK.out _ _ (fun _ => HB8.out) (fun hHeld => ?_)
    replace hHeld := hHeld (by kernel_rfl)
    clear hK K
    (repeat (first | simp only [Act.put] | simp only [List.setIfInBounds_toArray] | simp only [List.set_cons_zero] | simp only [List.set_cons_succ]))
    refine AnyL.one (i := 5) (by kernel_rfl) rfl (fun K hK => ?_)
    obtain ⟨ii, hii, hz0, hz1, hz2⟩ := info_parts Try.infoRev
    refine step_grow rfl (.tmp 33) (.tmp 35) 29 rfl 52 ii _ 2 16 Try.underlying29 hii hz0 hz1 hz2 rfl (by decide) rA nr (flatF (fun i j => revC (revN b.revs i) j) nr 2) rfl (flatF_len _ _ _) HNA.out (flatF_holds (Cells.keep HCE.out fun p _ hp => (HW6.out.trans (HB8.out.mono HW6.out.size)).cell hp) (by decide)) gn [.int .i64 cx, .int .u64 (cy : Int)] rfl rfl (fun j u hj => ?_) (by simp [Value.oneCell']) (by unfold maxLen; omega) (by omega) ?_
    · rw [addr_add, Nat.zero_add]
      exact cell_of HN8.out (by simpa using hj)
    intro v6 w6 hown6 hg6
    obtain ⟨A6, c6, rfl⟩ := own_sl hown6
    have hb6' : Below W6.heap.size W6 w6 := HB8.out.grown hg6 HB8.out.size (fun q e => by cases e)
    have HB6' := Lib.hid hb6'
    have HO6 := Lib.hid hown6
    have HSZ8 := Lib.hid HB8.out.size
    have k0' := K0.out w6 (HB6.out.trans (hb6'.mono HB6.out.size))
    clear hown6 hg6 hb6' hz0 hz1 hz2 hii ii
    refine hK.out _ _ (fun _ => HB6'.out) (fun hHeld => ?_)
    replace hHeld := hHeld (by kernel_rfl)
    clear hK K
    (repeat (first | simp only [Act.put] | simp only [List.setIfInBounds_toArray] | simp only [List.set_cons_zero] | simp only [List.set_cons_succ]))
    refine AnyL.take (i := 6) (v := ?_) rfl (by kernel_rfl) (by kernel_rfl) (fun _ _ _ h => h) (by kernel_rfl) (by kernel_rfl) (by kernel_rfl) (Or.inl ⟨by rfl, ?_⟩) hHeld ?_
    rotate_left 1
    focus (intro w hSw; (try dsimp only at hSw); go_simp; (try with_reducible rfl))
    (repeat (first | simp only [Act.put] | simp only [List.setIfInBounds_toArray] | simp only [List.set_cons_zero] | simp only [List.set_cons_succ]))
    refine AnyL.one (i := 7) (by kernel_rfl) rfl (fun K hK => ?_)
    have y3 := cell_of (j := 4) k0' rfl
    have fy3 : w6.frozen? ⟨w.heap.size, 4, none⟩ = false := by simp [World.frozen?, k0']
    go_simp
    refine nameG (w := w6.setCell ⟨w.heap.size, 4, none⟩ (.slice A6 (nr + 1) c6)) (p := fun W => K _ W) fun w5 hw5 => ?_
    have k5 : w5.heap[w.heap.size]? = some (.cells #[.slice cA n cc, .int .i64 thr, .int .u64 (rng : Int), .slice kA m kc, .slice A6 (nr + 1) c6, .slice oA no oc] 32 (0, 0)) := by
      have hx := Blk_set k0' (j := 4) (.slice A6 (nr + 1) c6)
      rw [hw5.out, hx]; rfl
    have hk5 : ∀ q, q ≠ w.heap.size → w5.heap[q]? = w6.heap[q]? := fun q hq => by rw [hw5.out]; exact Below.heap_setCell _ _ _ _ hq
    have hb5 : Below w.heap.size w w5 := by rw [hw5.out]; exact (HW6.out.trans (HB6'.out.mono HW6.out.size)).setCell (Nat.le_refl _) _
    have kz := (hk5 B2 (by omega)).trans (KZ.out w6 (HB6.out.trans (HB6'.out.mono HB6.out.size)))
    have K5 := Lib.hid k5
    have KZ5 := Lib.hid kz
    have HB5 := Lib.hid hb5
    have HK5 := Lib.hid hk5
    clear hw5 k5 hk5 hb5 kz k0' y3 fy3
    refine hK.out _ _ (fun h => nomatch (show true = false from h)) (fun _ => ?_)
    clear hK K
    (try dsimp only)
    refine AnyL.done (by kernel_rfl) ?_
    have r0 := cell_of (j := 0) K5.out rfl
    have r1 := cell_of (j := 1) K5.out rfl
    have r2 := cell_of (j := 2) K5.out rfl
    have r3 := cell_of (j := 3) K5.out rfl
    have r4 := cell_of (j := 4) K5.out rfl
    have r5 := cell_of (j := 5) K5.out rfl
    have m0 := cell_of (j := 0) KZ5.out rfl
    have fm0 : w5.frozen? ⟨B2, 0, none⟩ = false := by simp [World.frozen?, KZ5.out]
    have m1 := cell_of (j := 1) KZ5.out rfl
    have fm1 : w5.frozen? ⟨B2, 1, none⟩ = false := by simp [World.frozen?, KZ5.out]
    have m2 := cell_of (j := 2) KZ5.out rfl
    have fm2 : w5.frozen? ⟨B2, 2, none⟩ = false := by simp [World.frozen?, KZ5.out]
    have m3 := cell_of (j := 3) KZ5.out rfl
    have fm3 : w5.frozen? ⟨B2, 3, none⟩ = false := by simp [World.frozen?, KZ5.out]
    have m4 := cell_of (j := 4) KZ5.out rfl
    have fm4 : w5.frozen? ⟨B2, 4, none⟩ = false := by simp [World.frozen?, KZ5.out]
    have m5 := cell_of (j := 5) KZ5.out rfl
    have fm5 : w5.frozen? ⟨B2, 5, none⟩ = false := by simp [World.frozen?, KZ5.out]
    go_wp2_with fail
    refine nameG (p := fun W => bodyPost Try.prog Try.f15 _ Exit.ret _ W) fun W7 hW7 => ?_
    have hk7 : W7.heap[B2]? = some (.cells #[.slice cA n cc, .int .i64 thr, .int .u64 (rng : Int), .slice kA m kc, .slice A6 (nr + 1) c6, .slice oA no oc] 32 (0, 0)) := by
      have hx := (Blk_set (Blk_set (Blk_set (Blk_set (Blk_set (Blk_set KZ5.out (j := 0) (.slice cA n cc)) (j := 1) (.int .i64 thr)) (j := 2) (.int .u64 (rng : Int))) (j := 3) (.slice kA m kc)) (j := 4) (.slice A6 (nr + 1) c6)) (j := 5) (.slice oA no oc))
      rw [hW7.out, hx]; rfl
    have j0 := cell_of (j := 0) hk7 rfl
    have j1 := cell_of (j := 1) hk7 rfl
    have j2 := cell_of (j := 2) hk7 rfl
    have j3 := cell_of (j := 3) hk7 rfl
    have j4 := cell_of (j := 4) hk7 rfl
    have j5 := cell_of (j := 5) hk7 rfl
    refine bodyPost_ret (v := .tuple #[.agg #[.slice cA n cc, .int .i64 thr, .int .u64 (rng : Int), .slice kA m kc, .slice A6 (nr + 1) c6, .slice oA no oc], .int .i64 0]) (by simp [results, Try.results15, go_sem, j0, j1, j2, j3, j4, j5]) rfl ?_

    have hb7 : Below w.heap.size w W7 := by rw [hW7.out]; exact ((((((HB5.out.setCell (by show w.heap.size ≤ B2; omega) _).setCell (by show w.heap.size ≤ B2; omega) _).setCell (by show w.heap.size ≤ B2; omega) _).setCell (by show w.heap.size ≤ B2; omega) _).setCell (by show w.heap.size ≤ B2; omega) _).setCell (by show w.heap.size ≤ B2; omega) _)
    have hW6w : w.heap.size < W6.heap.size := by have := HB6.out.size; omega
    have hB26 : B2 < W6.heap.size := by have := HB6.out.size; omega
    have hk7 : ∀ q, W6.heap.size ≤ q → W7.heap[q]? = w6.heap[q]? := fun q hq => by
      rw [hW7.out]
      repeat rw [Below.heap_setCell _ _ _ _ (show q ≠ B2 by omega)]
      exact HK5.out q (by omega)
    have hw8g : W6.heap.size ≤ w8.heap.size := HSZ8.out
    have ho7 : W7.ownsRow w8.heap.size 52 2 (.slice A6 (nr + 1) c6) (nr + 1) (flatF (fun i j => revC (revN b.revs i) j) nr 2 ++ [.int .i64 cx, .int .u64 (cy : Int)]) := by
      obtain ⟨o1, o2⟩ := HO6.out
      refine ⟨o1, ?_⟩
      rcases o2 with o2 | ⟨q, cap, cur, q1, q2, q3, q4⟩
      · exact .inl o2
      · exact .inr ⟨q, cap, cur, q1, q2, (hk7 q (by omega)).trans q3, q4⟩

    obtain ⟨e1, e2, e3, e4, e5, e6⟩ := HE.out
    have hb69 := hb7
    refine ⟨_, by rw [HQ.out], ?_, hb7⟩
    rw [HQ.out]
    rw [HX.out.1, HX.out.2, e3] at ho7
    have hx3 : ∀ q, w8.heap.size ≤ q → ((fun q => M q ∨ w.heap.size ≤ q)) q := fun q h => Or.inr (by omega)
    have hrow := revs_snoc hx3 ho7
    have hcl : IsInts W7 (fun q => M q ∨ w.heap.size ≤ q) (.slice cA n cc) b.clubs := by rw [e1]; exact IsSl.mono (IsSl.below HI1.out hb7) (fun q _ h => Or.inl h) (by omega)
    rw [← e3] at hrow
    have hcm : IsComs W7 (fun q => M q ∨ w.heap.size ≤ q) (.slice kA m kc) b.coms := by rw [e2]; exact (HI2.out.below hb7).mono (fun q _ h => Or.inl h)
    have hop : IsOpns W7 (fun q => M q ∨ w.heap.size ≤ q) (.slice oA no oc) b.opns := by rw [e4]; exact IsSl.mono (IsSl.below HI4.out hb7) (fun q _ h => Or.inl h) (by omega)
    refine ⟨.slice cA n cc, .slice kA m kc, .slice A6 (nr + 1) c6, .slice oA no oc, ?_, hcl, hcm, hrow, hop⟩
    rw [e5, e6]
end Go.Proofs.Ytgaanndidcdbpaa
/- Open. -/
namespace Go.Proofs.Ytgaanndidcdbpaa
open Go.RowKit Go.Shelf

theorem op1_any {w : World} {g : Nat} {cx fx : Int} {sx sy : Nat} (h : w.heap[g]? = some (.cells #[.int .i64 cx, .int .i64 fx, .int .u64 (sx : Int), .int .u64 (sy : Int)] 61 (0, 0))) (ax bx : Int) (ay az : Nat) : Calls Try.prog 42 #[.agg #[.int .i64 ax, .int .i64 bx, .int .u64 (ay : Int), .int .u64 (az : Int)], .pointer (some ⟨g, 0, none⟩)] w fun e w' => e = .returned (.bool (decide (ax = cx) && decide (bx = fx))) ∧ Below w.heap.size w w' := by
  have hg := lt_heap h
  have c0 := cell_of (j := 0) h rfl
  have c1 := cell_of (j := 1) h rfl
  clear h
  by_cases e1 : ax = cx
  · have b1 : (ax == cx) = true := by rw [beq_iff_eq]; exact e1
    have HQ := Lib.hid (show (bx == fx) = (decide (ax = cx) && decide (bx = fx)) by rw [decide_eq_true e1]; rfl)
    clear e1
    go_enter Try.func42, Try.ntmps42
    go_wp2_with fail
    go_ret
    exact ⟨ret_bool HQ.out, (Below.refl _ _).alloc (Nat.le_refl _) _⟩
  · have b1 : (ax == cx) = false := by rw [beq_eq_false_iff_ne]; exact e1
    have HQ := Lib.hid (show false = (decide (ax = cx) && decide (bx = fx)) by rw [decide_eq_false e1]; rfl)
    clear e1
    go_enter Try.func42, Try.ntmps42
    go_wp2_with fail
    go_ret
    exact ⟨ret_bool HQ.out, (Below.refl _ _).alloc (Nat.le_refl _) _⟩
set_option maxRecDepth 20000 in
set_option maxHeartbeats 8000000 in
theorem openS_any (w : World) (M : Nat → Prop) (v : Value) (b : BeaD) (o : OpnD) (h : IsBea w M v b) (hs : SmallB b) (hc : W64 o.club) (hf : W64 o.frm) : Calls Try.prog 17 #[v, .agg #[.int .i64 o.club, .int .i64 o.frm, .int .u64 (o.sh.1 : Int), .int .u64 (o.sh.2 : Int)]] w (BeaE w (fun q => M q ∨ w.heap.size ≤ q) (openD b o)) := by
  have HBE := Lib.hid h
  have HS := Lib.hid hs
  have HC64 := Lib.hid hc
  obtain ⟨cA, cc, kA, kc, rA, rc, oA, oc, rfl, i1, i2, i3, i4⟩ := h.parts
  have HI1 := Lib.hid i1
  have HI2 := Lib.hid i2
  have HI3 := Lib.hid i3
  have HI4 := Lib.hid i4
  have D1 := Lib.hid (fun (W : World) (hW : Below w.heap.size w W) => Lib.hid (bcheck_any W M _ b (h.below hW) hs))
  have D2 := Lib.hid (fun (W : World) (hW : Below w.heap.size w W) => Lib.hid (open_any W M _ b (h.below hW) hs))
  have HF64 := Lib.hid hf
  have D3 := Lib.hid (fun (W : World) (Mb : Nat → Prop) (vb : Value) (hb : IsBoard W Mb vb b) => Lib.hid (openFits_any W Mb vb b o hb hs hc hf))
  obtain ⟨fz, hfz⟩ : ∃ z, z = opnB b o := ⟨_, rfl⟩
  obtain ⟨hz9, hhz⟩ : ∃ z, z = (List.range b.opns.length).any (fun i => decide ((opnN b.opns i).club = o.club) && decide ((opnN b.opns i).frm = o.frm)) := ⟨_, rfl⟩
  have D4 := Lib.hid (fun (W : World) (hW : Below w.heap.size w W) (g : Nat) (hg : W.heap[g]? = some (.cells #[.int .i64 o.club, .int .i64 o.frm, .int .u64 (o.sh.1 : Int), .int .u64 (o.sh.2 : Int)] 61 (0, 0))) => Lib.hid (show Calls Try.prog 41 #[.slice oA b.opns.length oc, .func (.func 42) #[] #[.pointer (some ⟨g, 0, none⟩)]] W fun e w' => e = .returned (.bool hz9) ∧ Below W.heap.size W w' by
    obtain ⟨A', c', e, h1, h2, h3⟩ := IsSl.below i4 hW
    cases e
    have y := containsFuncO_any W M oA b.opns.length oc _ (by have := hs.op; omega) h3 42 #[.pointer (some ⟨g, 0, none⟩)] (fun i => decide ((opnN b.opns i).club = o.club) && decide ((opnN b.opns i).frm = o.frm)) (enters_of Try.func42 (by kernel_rfl) rfl) (fun i hi wr hwr => op1_any ((hwr.block _ (lt_heap hg)).trans hg) (opnN b.opns i).club (opnN b.opns i).frm (opnN b.opns i).sh.1 (opnN b.opns i).sh.2)
    rw [hhz]
    exact y))
  have HHZ := Lib.hid hhz
  have HFZ := Lib.hid hfz
  rw [← hfz] at D3
  obtain ⟨R, hR⟩ : ∃ R, R = openD b o := ⟨_, rfl⟩
  have HR := Lib.hid hR
  rw [← hR]
  obtain ⟨ck, hck⟩ : ∃ z, z = chkD b := ⟨_, rfl⟩
  have HCK := Lib.hid hck
  rw [← hck] at D1
  have hmb : b.coms.length ≤ 1000 := hs.co
  have hrb : b.revs.length ≤ 1000 := hs.re
  have hob : b.opns.length ≤ 1000 := hs.op
  have hkc : b.coms.length ≤ kc := by obtain ⟨A', c', e, h1, -⟩ := i2.len; cases e; exact h1
  have hrc : b.revs.length ≤ rc := by obtain ⟨A', c', e, h1, -⟩ := id i3; cases e; exact h1
  have hoc : b.opns.length ≤ oc := by obtain ⟨A', c', e, h1, -⟩ := id i4; cases e; exact h1
  clear h hs i1 i2 i3 i4 hfz hR hck hc hf hhz
  obtain ⟨n, hn⟩ : ∃ n, n = b.clubs.length := ⟨_, rfl⟩
  obtain ⟨m, hm⟩ : ∃ n, n = b.coms.length := ⟨_, rfl⟩
  obtain ⟨nr, hnr⟩ : ∃ n, n = b.revs.length := ⟨_, rfl⟩
  obtain ⟨no, hno⟩ : ∃ n, n = b.opns.length := ⟨_, rfl⟩
  obtain ⟨thr, hthr⟩ : ∃ n, n = b.thr := ⟨_, rfl⟩
  obtain ⟨rng, hrng⟩ : ∃ n, n = b.rng := ⟨_, rfl⟩
  obtain ⟨cx, hcx⟩ : ∃ x, x = o.club := ⟨_, rfl⟩
  obtain ⟨fx, hfx⟩ : ∃ x, x = o.frm := ⟨_, rfl⟩
  obtain ⟨sx, hsx⟩ : ∃ x, x = o.sh.1 := ⟨_, rfl⟩
  obtain ⟨sy, hsy⟩ : ∃ x, x = o.sh.2 := ⟨_, rfl⟩
  have HE := Lib.hid (And.intro hn (And.intro hm (And.intro hnr (And.intro hno (And.intro hthr hrng)))))
  have HX := Lib.hid (And.intro hcx (And.intro hfx (And.intro hsx hsy)))
  rw [← hn, ← hm, ← hnr, ← hno, ← hthr, ← hrng, ← hcx, ← hfx, ← hsx, ← hsy]
  (try rw [← hn] at D1)
  (try rw [← hm] at D1)
  (try rw [← hnr] at D1)
  (try rw [← hno] at D1)
  (try rw [← hthr] at D1)
  (try rw [← hrng] at D1)
  (try rw [← hcx] at D1)
  (try rw [← hfx] at D1)
  (try rw [← hsx] at D1)
  (try rw [← hsy] at D1)
  (try rw [← hn] at D2)
  (try rw [← hm] at D2)
  (try rw [← hnr] at D2)
  (try rw [← hno] at D2)
  (try rw [← hthr] at D2)
  (try rw [← hrng] at D2)
  (try rw [← hcx] at D2)
  (try rw [← hfx] at D2)
  (try rw [← hsx] at D2)
  (try rw [← hsy] at D2)
  (try rw [← hn] at D3)
  (try rw [← hm] at D3)
  (try rw [← hnr] at D3)
  (try rw [← hno] at D3)
  (try rw [← hthr] at D3)
  (try rw [← hrng] at D3)
  (try rw [← hcx] at D3)
  (try rw [← hfx] at D3)
  (try rw [← hsx] at D3)
  (try rw [← hsy] at D3)
  (try rw [← hn] at D4)
  (try rw [← hm] at D4)
  (try rw [← hnr] at D4)
  (try rw [← hno] at D4)
  (try rw [← hthr] at D4)
  (try rw [← hrng] at D4)
  (try rw [← hcx] at D4)
  (try rw [← hfx] at D4)
  (try rw [← hsx] at D4)
  (try rw [← hsy] at D4)
  rw [← hm] at hmb hkc
  rw [← hnr] at hrb hrc
  rw [← hno] at hob hoc
  clear hn hm hnr hno hthr hrng hcx hfx hsx hsy
  go_enter Try.func17, Try.ntmps17
  go_upto_region 1 with fail
  refine nameC fun W1 hW1 => ?_
  have hb1 : Below w.heap.size w W1 := by rw [hW1.out]; exact (((Below.refl _ _).alloc (Nat.le_refl _) _).alloc (by simp) _).alloc (by simp; omega) _
  have k0 : W1.heap[w.heap.size]? = some (.cells #[.slice cA n cc, .int .i64 thr, .int .u64 (rng : Int), .slice kA m kc, .slice rA nr rc, .slice oA no oc] 32 (0, 0)) := by rw [hW1.out]; simp only [heap_alloc_if, World.size_alloc]; rw [if_neg (by omega)]; rw [if_neg (by omega)]; rw [if_pos trivial]
  have k1 : W1.heap[w.heap.size + 1]? = some (.cells #[.int .i64 cx, .int .i64 fx, .int .u64 (sx : Int), .int .u64 (sy : Int)] 61 (0, 0)) := by rw [hW1.out]; simp only [heap_alloc_if, World.size_alloc]; rw [if_neg (by omega)]; rw [if_pos trivial]
  have k2 : W1.heap[w.heap.size + 1 + 1]? = some (.cells #[.slice none 0 0, .int .i64 0, .int .u64 0, .slice none 0 0, .slice none 0 0, .slice none 0 0] 32 (0, 0)) := by rw [hW1.out]; simp only [heap_alloc_if, World.size_alloc]; rw [if_pos trivial]
  obtain ⟨B2, hB2⟩ : ∃ B, B = w.heap.size + 1 + 1 := ⟨_, rfl⟩
  rw [← hB2] at k2 ⊢
  obtain ⟨B1, hB1⟩ : ∃ B, B = w.heap.size + 1 := ⟨_, rfl⟩
  rw [← hB1] at k1 ⊢
  have hne1 : w.heap.size < B1 := by omega
  have hne2 : B1 < B2 := by omega
  have HC := Lib.hid (show ∀ W', Below W1.heap.size W1 W' → (W'.cell? ⟨w.heap.size, 0, none⟩ = some (.slice cA n cc) ∧ W'.cell? ⟨w.heap.size, 1, none⟩ = some (.int .i64 thr) ∧ W'.cell? ⟨w.heap.size, 2, none⟩ = some (.int .u64 (rng : Int)) ∧ W'.cell? ⟨w.heap.size, 3, none⟩ = some (.slice kA m kc) ∧ W'.cell? ⟨w.heap.size, 4, none⟩ = some (.slice rA nr rc) ∧ W'.cell? ⟨w.heap.size, 5, none⟩ = some (.slice oA no oc) ∧ W'.cell? ⟨B1, 0, none⟩ = some (.int .i64 cx) ∧ W'.cell? ⟨B1, 1, none⟩ = some (.int .i64 fx) ∧ W'.cell? ⟨B1, 2, none⟩ = some (.int .u64 (sx : Int)) ∧ W'.cell? ⟨B1, 3, none⟩ = some (.int .u64 (sy : Int))) from fun W' h => by
    have e0 := (h.block _ (lt_heap k0)).trans k0
    have e1 := (h.block _ (lt_heap k1)).trans k1
    exact ⟨cell_of e0 rfl, cell_of e0 rfl, cell_of e0 rfl, cell_of e0 rfl, cell_of e0 rfl, cell_of e0 rfl, cell_of e1 rfl, cell_of e1 rfl, cell_of e1 rfl, cell_of e1 rfl⟩)
  have K0 := Lib.hid (show ∀ W', Below W1.heap.size W1 W' → W'.heap[w.heap.size]? = some (.cells #[.slice cA n cc, .int .i64 thr, .int .u64 (rng : Int), .slice kA m kc, .slice rA nr rc, .slice oA no oc] 32 (0, 0)) from fun W' h => (h.block _ (lt_heap k0)).trans k0)
  have K1 := Lib.hid (show ∀ W', Below W1.heap.size W1 W' → W'.heap[B1]? = some (.cells #[.int .i64 cx, .int .i64 fx, .int .u64 (sx : Int), .int .u64 (sy : Int)] 61 (0, 0)) from fun W' h => (h.block _ (lt_heap k1)).trans k1)
  have KZ := Lib.hid (show ∀ W', Below W1.heap.size W1 W' → W'.heap[B2]? = some (.cells #[.slice none 0 0, .int .i64 0, .int .u64 0, .slice none 0 0, .slice none 0 0, .slice none 0 0] 32 (0, 0)) from fun W' h => (h.block _ (lt_heap k2)).trans k2)
  have hsz1 := lt_heap k2
  have HB1 := Lib.hid hb1
  clear hW1 hb1 k0 k1 k2 hB1 hB2
  obtain ⟨c0_0, c0_1, c0_2, c0_3, c0_4, c0_5, c1_0, c1_1, c1_2, c1_3⟩ := HC.out _ (Below.refl _ _)
  go_wp2_with fail
  refine (D1.out _ HB1.out).out.mono ?_
  rintro e W2 ⟨rfl, hb⟩
  have HB2 := Lib.hid hb
  clear hb
  clear c0_0 c0_1 c0_2 c0_3 c0_4 c0_5 c1_0 c1_1 c1_2 c1_3
  obtain ⟨c0_0, c0_1, c0_2, c0_3, c0_4, c0_5, c1_0, c1_1, c1_2, c1_3⟩ := HC.out _ HB2.out
  by_cases t0 : ck = 0
  case neg =>
    have b0 : (ck != 0) = true := by rw [bne_iff_ne]; exact t0
    have HQ := Lib.hid (show R = (bea0, ck) by rw [HR.out]; unfold openD; rw [← HCK.out, if_neg t0])
    clear t0
    have kz := KZ.out W2 HB2.out
    have m0 := cell_of (j := 0) kz rfl
    have fm0 : W2.frozen? ⟨B2, 0, none⟩ = false := by simp [World.frozen?, kz]
    have m1 := cell_of (j := 1) kz rfl
    have fm1 : W2.frozen? ⟨B2, 1, none⟩ = false := by simp [World.frozen?, kz]
    have m2 := cell_of (j := 2) kz rfl
    have fm2 : W2.frozen? ⟨B2, 2, none⟩ = false := by simp [World.frozen?, kz]
    have m3 := cell_of (j := 3) kz rfl
    have fm3 : W2.frozen? ⟨B2, 3, none⟩ = false := by simp [World.frozen?, kz]
    have m4 := cell_of (j := 4) kz rfl
    have fm4 : W2.frozen? ⟨B2, 4, none⟩ = false := by simp [World.frozen?, kz]
    have m5 := cell_of (j := 5) kz rfl
    have fm5 : W2.frozen? ⟨B2, 5, none⟩ = false := by simp [World.frozen?, kz]
    go_wp2_with fail
    refine nameG (p := fun W => bodyPost Try.prog Try.f17 _ Exit.ret _ W) fun W7 hW7 => ?_
    have hk7 : W7.heap[B2]? = some (.cells #[.slice none 0 0, .int .i64 0, .int .u64 0, .slice none 0 0, .slice none 0 0, .slice none 0 0] 32 (0, 0)) := by
      have hx := (Blk_set (Blk_set (Blk_set (Blk_set (Blk_set (Blk_set kz (j := 0) (.slice none 0 0)) (j := 1) (.int .i64 0)) (j := 2) (.int .u64 0)) (j := 3) (.slice none 0 0)) (j := 4) (.slice none 0 0)) (j := 5) (.slice none 0 0))
      rw [hW7.out, hx]; rfl
    have j0 := cell_of (j := 0) hk7 rfl
    have j1 := cell_of (j := 1) hk7 rfl
    have j2 := cell_of (j := 2) hk7 rfl
    have j3 := cell_of (j := 3) hk7 rfl
    have j4 := cell_of (j := 4) hk7 rfl
    have j5 := cell_of (j := 5) hk7 rfl
    refine bodyPost_ret (v := .tuple #[.agg #[.slice none 0 0, .int .i64 0, .int .u64 0, .slice none 0 0, .slice none 0 0, .slice none 0 0], .int .i64 ck]) (by simp [results, Try.results17, go_sem, j0, j1, j2, j3, j4, j5]) rfl ?_
    refine ⟨_, by rw [HQ.out], by rw [HQ.out]; exact IsBea.zero, ?_⟩
    rw [hW7.out]
    exact (((((((HB1.out.trans (HB2.out.mono HB1.out.size)).setCell (by show w.heap.size ≤ B2; omega) _).setCell (by show w.heap.size ≤ B2; omega) _).setCell (by show w.heap.size ≤ B2; omega) _).setCell (by show w.heap.size ≤ B2; omega) _).setCell (by show w.heap.size ≤ B2; omega) _).setCell (by show w.heap.size ≤ B2; omega) _)
  have b0 : (ck != 0) = false := by rw [bne_eq_false_iff_eq]; exact t0
  have HR2 := Lib.hid (show R = if !doneB b || hz9 then (bea0, 240) else if fz then ({b with opns := b.opns ++ [o]}, 0) else (bea0, 241) by rw [HR.out]; unfold openD; rw [← HCK.out, if_pos t0, ← HFZ.out, ← HHZ.out])
  clear t0
  go_wp2_with fail
  refine (D2.out _ (HB1.out.trans (HB2.out.mono HB1.out.size))).out.mono ?_
  rintro e W3 ⟨v3, rfl, hbd, hb⟩
  have HBD := Lib.hid hbd
  have HB3 := Lib.hid (HB2.out.trans (hb.mono HB2.out.size))
  obtain ⟨dA, dc, lA, lc, sA, sc, pA, pc, bp, bc, rfl, -, -, -, -, hbm⟩ := hbd.parts
  have HBM := Lib.hid hbm
  obtain ⟨dz, hdz⟩ : ∃ z, z = doneB b := ⟨_, rfl⟩
  rw [← HE.out.1, ← HE.out.2.1, ← HE.out.2.2.1, ← HE.out.2.2.2.1, ← HE.out.2.2.2.2.1, ← HE.out.2.2.2.2.2, ← hdz] at HBD ⊢
  rw [← hdz] at HR2
  clear hbd hb hbm D1 D2 hdz
  clear c0_0 c0_1 c0_2 c0_3 c0_4 c0_5 c1_0 c1_1 c1_2 c1_3
  obtain ⟨c0_0, c0_1, c0_2, c0_3, c0_4, c0_5, c1_0, c1_1, c1_2, c1_3⟩ := HC.out _ HB3.out
  go_upto_region 5 with fail
  refine nameC fun W4 hW4 => ?_
  have hb4 : Below W3.heap.size W3 W4 := by rw [hW4.out]; exact (Below.refl _ _).alloc (Nat.le_refl _) _
  have k4 : W4.heap[W3.heap.size]? = some (.cells #[.slice dA n dc, .int .i64 thr, .int .u64 (rng : Int), .slice lA m lc, .slice sA nr sc, .slice pA no pc, .map (some bp), .map (some bc), .bool dz] 89 (0, 0)) := by rw [hW4.out]; exact heap_alloc_new _ _
  obtain ⟨g4, hg4⟩ : ∃ g, g = W3.heap.size := ⟨_, rfl⟩
  rw [← hg4] at k4 ⊢
  have K4 := Lib.hid k4
  have HB4 := Lib.hid (HB3.out.trans (hb4.mono HB3.out.size))
  have HBD4 := Lib.hid (HBD.out.below hb4)
  have HBM4 := Lib.hid (HBM.out.below hb4)
  clear hW4 hb4 k4 hg4 HBD HBM
  clear c0_0 c0_1 c0_2 c0_3 c0_4 c0_5 c1_0 c1_1 c1_2 c1_3
  obtain ⟨c0_0, c0_1, c0_2, c0_3, c0_4, c0_5, c1_0, c1_1, c1_2, c1_3⟩ := HC.out _ HB4.out
  have q0 := cell_of (j := 0) K4.out rfl
  have q1 := cell_of (j := 1) K4.out rfl
  have q2 := cell_of (j := 2) K4.out rfl
  have q3 := cell_of (j := 3) K4.out rfl
  have q4 := cell_of (j := 4) K4.out rfl
  have q5 := cell_of (j := 5) K4.out rfl
  have q6 := cell_of (j := 6) K4.out rfl
  have q7 := cell_of (j := 7) K4.out rfl
  have q8 := cell_of (j := 8) K4.out rfl
  cases dz
  · have HQ := Lib.hid (show R = (bea0, 240) by rw [HR2.out]; rfl)
    clear q0 q1 q2 q3 q4 q5 q6 q7
    clear c0_0 c0_1 c0_2 c0_3 c0_4 c0_5 c1_0 c1_1 c1_2 c1_3
    have kz := KZ.out W4 HB4.out
    have m0 := cell_of (j := 0) kz rfl
    have fm0 : W4.frozen? ⟨B2, 0, none⟩ = false := by simp [World.frozen?, kz]
    have m1 := cell_of (j := 1) kz rfl
    have fm1 : W4.frozen? ⟨B2, 1, none⟩ = false := by simp [World.frozen?, kz]
    have m2 := cell_of (j := 2) kz rfl
    have fm2 : W4.frozen? ⟨B2, 2, none⟩ = false := by simp [World.frozen?, kz]
    have m3 := cell_of (j := 3) kz rfl
    have fm3 : W4.frozen? ⟨B2, 3, none⟩ = false := by simp [World.frozen?, kz]
    have m4 := cell_of (j := 4) kz rfl
    have fm4 : W4.frozen? ⟨B2, 4, none⟩ = false := by simp [World.frozen?, kz]
    have m5 := cell_of (j := 5) kz rfl
    have fm5 : W4.frozen? ⟨B2, 5, none⟩ = false := by simp [World.frozen?, kz]
    go_wp2_with fail
    refine nameG (p := fun W => bodyPost Try.prog Try.f17 _ Exit.ret _ W) fun W7 hW7 => ?_
    have hk7 : W7.heap[B2]? = some (.cells #[.slice none 0 0, .int .i64 0, .int .u64 0, .slice none 0 0, .slice none 0 0, .slice none 0 0] 32 (0, 0)) := by
      have hx := (Blk_set (Blk_set (Blk_set (Blk_set (Blk_set (Blk_set kz (j := 0) (.slice none 0 0)) (j := 1) (.int .i64 0)) (j := 2) (.int .u64 0)) (j := 3) (.slice none 0 0)) (j := 4) (.slice none 0 0)) (j := 5) (.slice none 0 0))
      rw [hW7.out, hx]; rfl
    have j0 := cell_of (j := 0) hk7 rfl
    have j1 := cell_of (j := 1) hk7 rfl
    have j2 := cell_of (j := 2) hk7 rfl
    have j3 := cell_of (j := 3) hk7 rfl
    have j4 := cell_of (j := 4) hk7 rfl
    have j5 := cell_of (j := 5) hk7 rfl
    refine bodyPost_ret (v := .tuple #[.agg #[.slice none 0 0, .int .i64 0, .int .u64 0, .slice none 0 0, .slice none 0 0, .slice none 0 0], .int .i64 240]) (by simp [results, Try.results17, go_sem, j0, j1, j2, j3, j4, j5]) rfl ?_
    refine ⟨_, by rw [HQ.out], by rw [HQ.out]; exact IsBea.zero, ?_⟩
    rw [hW7.out]
    exact (((((((HB1.out.trans (HB4.out.mono HB1.out.size)).setCell (by show w.heap.size ≤ B2; omega) _).setCell (by show w.heap.size ≤ B2; omega) _).setCell (by show w.heap.size ≤ B2; omega) _).setCell (by show w.heap.size ≤ B2; omega) _).setCell (by show w.heap.size ≤ B2; omega) _).setCell (by show w.heap.size ≤ B2; omega) _)
  go_wp2_with fail
  refine (D4.out _ (HB1.out.trans (HB4.out.mono HB1.out.size)) B1 (K1.out _ HB4.out)).out.mono ?_
  rintro e W5 ⟨rfl, hb⟩
  have k5 := (hb.block _ (lt_heap K4.out)).trans K4.out
  have HB5 := Lib.hid (HB4.out.trans (hb.mono HB4.out.size))
  have HBD5 := Lib.hid (HBD4.out.below hb)
  clear hb q0 q1 q2 q3 q4 q5 q6 q7 q8
  clear c0_0 c0_1 c0_2 c0_3 c0_4 c0_5 c1_0 c1_1 c1_2 c1_3
  obtain ⟨c0_0, c0_1, c0_2, c0_3, c0_4, c0_5, c1_0, c1_1, c1_2, c1_3⟩ := HC.out _ HB5.out
  have q0 := cell_of (j := 0) k5 rfl
  have q1 := cell_of (j := 1) k5 rfl
  have q2 := cell_of (j := 2) k5 rfl
  have q3 := cell_of (j := 3) k5 rfl
  have q4 := cell_of (j := 4) k5 rfl
  have q5 := cell_of (j := 5) k5 rfl
  have q6 := cell_of (j := 6) k5 rfl
  have q7 := cell_of (j := 7) k5 rfl
  have q8 := cell_of (j := 8) k5 rfl
  clear k5
  cases hz9
  case true =>
    have HQ := Lib.hid (show R = (bea0, 240) by rw [HR2.out]; rfl)
    clear q0 q1 q2 q3 q4 q5 q6 q7 q8
    clear c0_0 c0_1 c0_2 c0_3 c0_4 c0_5 c1_0 c1_1 c1_2 c1_3
    have kz := KZ.out W5 HB5.out
    have m0 := cell_of (j := 0) kz rfl
    have fm0 : W5.frozen? ⟨B2, 0, none⟩ = false := by simp [World.frozen?, kz]
    have m1 := cell_of (j := 1) kz rfl
    have fm1 : W5.frozen? ⟨B2, 1, none⟩ = false := by simp [World.frozen?, kz]
    have m2 := cell_of (j := 2) kz rfl
    have fm2 : W5.frozen? ⟨B2, 2, none⟩ = false := by simp [World.frozen?, kz]
    have m3 := cell_of (j := 3) kz rfl
    have fm3 : W5.frozen? ⟨B2, 3, none⟩ = false := by simp [World.frozen?, kz]
    have m4 := cell_of (j := 4) kz rfl
    have fm4 : W5.frozen? ⟨B2, 4, none⟩ = false := by simp [World.frozen?, kz]
    have m5 := cell_of (j := 5) kz rfl
    have fm5 : W5.frozen? ⟨B2, 5, none⟩ = false := by simp [World.frozen?, kz]
    go_wp2_with fail
    refine nameG (p := fun W => bodyPost Try.prog Try.f17 _ Exit.ret _ W) fun W7 hW7 => ?_
    have hk7 : W7.heap[B2]? = some (.cells #[.slice none 0 0, .int .i64 0, .int .u64 0, .slice none 0 0, .slice none 0 0, .slice none 0 0] 32 (0, 0)) := by
      have hx := (Blk_set (Blk_set (Blk_set (Blk_set (Blk_set (Blk_set kz (j := 0) (.slice none 0 0)) (j := 1) (.int .i64 0)) (j := 2) (.int .u64 0)) (j := 3) (.slice none 0 0)) (j := 4) (.slice none 0 0)) (j := 5) (.slice none 0 0))
      rw [hW7.out, hx]; rfl
    have j0 := cell_of (j := 0) hk7 rfl
    have j1 := cell_of (j := 1) hk7 rfl
    have j2 := cell_of (j := 2) hk7 rfl
    have j3 := cell_of (j := 3) hk7 rfl
    have j4 := cell_of (j := 4) hk7 rfl
    have j5 := cell_of (j := 5) hk7 rfl
    refine bodyPost_ret (v := .tuple #[.agg #[.slice none 0 0, .int .i64 0, .int .u64 0, .slice none 0 0, .slice none 0 0, .slice none 0 0], .int .i64 240]) (by simp [results, Try.results17, go_sem, j0, j1, j2, j3, j4, j5]) rfl ?_
    refine ⟨_, by rw [HQ.out], by rw [HQ.out]; exact IsBea.zero, ?_⟩
    rw [hW7.out]
    exact (((((((HB1.out.trans (HB5.out.mono HB1.out.size)).setCell (by show w.heap.size ≤ B2; omega) _).setCell (by show w.heap.size ≤ B2; omega) _).setCell (by show w.heap.size ≤ B2; omega) _).setCell (by show w.heap.size ≤ B2; omega) _).setCell (by show w.heap.size ≤ B2; omega) _).setCell (by show w.heap.size ≤ B2; omega) _)
  go_wp2_with fail
  refine (D3.out _ _ _ HBD5.out).out.mono ?_
  rintro e W6 ⟨rfl, hb⟩
  have HB6 := Lib.hid (HB5.out.trans (hb.mono HB5.out.size))
  clear hb q0 q1 q2 q3 q4 q5 q6 q7 q8
  clear c0_0 c0_1 c0_2 c0_3 c0_4 c0_5 c1_0 c1_1 c1_2 c1_3
  cases fz
  · have HQ := Lib.hid (show R = (bea0, 241) by rw [HR2.out]; rfl)
    have kz := KZ.out W6 HB6.out
    have m0 := cell_of (j := 0) kz rfl
    have fm0 : W6.frozen? ⟨B2, 0, none⟩ = false := by simp [World.frozen?, kz]
    have m1 := cell_of (j := 1) kz rfl
    have fm1 : W6.frozen? ⟨B2, 1, none⟩ = false := by simp [World.frozen?, kz]
    have m2 := cell_of (j := 2) kz rfl
    have fm2 : W6.frozen? ⟨B2, 2, none⟩ = false := by simp [World.frozen?, kz]
    have m3 := cell_of (j := 3) kz rfl
    have fm3 : W6.frozen? ⟨B2, 3, none⟩ = false := by simp [World.frozen?, kz]
    have m4 := cell_of (j := 4) kz rfl
    have fm4 : W6.frozen? ⟨B2, 4, none⟩ = false := by simp [World.frozen?, kz]
    have m5 := cell_of (j := 5) kz rfl
    have fm5 : W6.frozen? ⟨B2, 5, none⟩ = false := by simp [World.frozen?, kz]
    go_wp2_with fail
    refine nameG (p := fun W => bodyPost Try.prog Try.f17 _ Exit.ret _ W) fun W7 hW7 => ?_
    have hk7 : W7.heap[B2]? = some (.cells #[.slice none 0 0, .int .i64 0, .int .u64 0, .slice none 0 0, .slice none 0 0, .slice none 0 0] 32 (0, 0)) := by
      have hx := (Blk_set (Blk_set (Blk_set (Blk_set (Blk_set (Blk_set kz (j := 0) (.slice none 0 0)) (j := 1) (.int .i64 0)) (j := 2) (.int .u64 0)) (j := 3) (.slice none 0 0)) (j := 4) (.slice none 0 0)) (j := 5) (.slice none 0 0))
      rw [hW7.out, hx]; rfl
    have j0 := cell_of (j := 0) hk7 rfl
    have j1 := cell_of (j := 1) hk7 rfl
    have j2 := cell_of (j := 2) hk7 rfl
    have j3 := cell_of (j := 3) hk7 rfl
    have j4 := cell_of (j := 4) hk7 rfl
    have j5 := cell_of (j := 5) hk7 rfl
    refine bodyPost_ret (v := .tuple #[.agg #[.slice none 0 0, .int .i64 0, .int .u64 0, .slice none 0 0, .slice none 0 0, .slice none 0 0], .int .i64 241]) (by simp [results, Try.results17, go_sem, j0, j1, j2, j3, j4, j5]) rfl ?_
    refine ⟨_, by rw [HQ.out], by rw [HQ.out]; exact IsBea.zero, ?_⟩
    rw [hW7.out]
    exact (((((((HB1.out.trans (HB6.out.mono HB1.out.size)).setCell (by show w.heap.size ≤ B2; omega) _).setCell (by show w.heap.size ≤ B2; omega) _).setCell (by show w.heap.size ≤ B2; omega) _).setCell (by show w.heap.size ≤ B2; omega) _).setCell (by show w.heap.size ≤ B2; omega) _).setCell (by show w.heap.size ≤ B2; omega) _)
  have HQ := Lib.hid (show R = ({b with opns := b.opns ++ [o]}, 0) by rw [HR2.out]; rfl)
  obtain ⟨A', c', e, -, -, hcells⟩ := id HI4.out
  obtain ⟨e4, -, e5⟩ := Value.slice.inj e
  subst e4 e5
  rw [← HE.out.2.2.2.1] at hcells
  have HCE := Lib.hid hcells
  have HNA := Lib.hid (show oA = none → no = 0 from fun hA => by
    rcases Nat.eq_zero_or_pos no with h0 | h0
    · exact h0
    · obtain ⟨b', off', e', -⟩ := hcells h0
      rw [hA] at e'; cases e')
  have HW6 := Lib.hid (HB1.out.trans (HB6.out.mono HB1.out.size))
  clear e hcells
  have hb6s := HB6.out.size
  go_upto_region 9 with fail
  refine anyL_begin (z := 7) (S := fun W9 => Below W6.heap.size W6 W9) (by kernel_rfl) (Below.drew (Below.refl _ _)) (fun hHeld => ?_)
  refine AnyL.take (i := 0) (v := ?_) rfl (by kernel_rfl) (by kernel_rfl) (fun _ _ _ h => h) (by kernel_rfl) (by kernel_rfl) (by kernel_rfl) (Or.inl ⟨by rfl, ?_⟩) hHeld ?_
  rotate_left 1
  focus (intro w hSw; (try dsimp only at hSw); go_simp; (try with_reducible rfl))
  (repeat (first | simp only [Act.put] | simp only [List.setIfInBounds_toArray] | simp only [List.set_cons_zero] | simp only [List.set_cons_succ]))
  refine AnyL.take (i := 1) (v := ?_) rfl (by kernel_rfl) (by kernel_rfl) (fun _ _ _ h => h) (by kernel_rfl) (by kernel_rfl) (by kernel_rfl) (Or.inl ⟨by rfl, ?_⟩) hHeld ?_
  rotate_left 1
  focus (intro w hSw; (try dsimp only at hSw); obtain ⟨c0_0, c0_1, c0_2, c0_3, c0_4, c0_5, c1_0, c1_1, c1_2, c1_3⟩ := HC.out w (HB6.out.trans (Below.mono hSw HB6.out.size)); go_simp; (try with_reducible rfl))
  (repeat (first | simp only [Act.put] | simp only [List.setIfInBounds_toArray] | simp only [List.set_cons_zero] | simp only [List.set_cons_succ]))
  refine AnyL.take (i := 3) (v := ?_) rfl (by kernel_rfl) (by kernel_rfl) (fun _ _ _ h => h) (by kernel_rfl) (by kernel_rfl) (by kernel_rfl) (Or.inl ⟨by rfl, ?_⟩) hHeld ?_
  rotate_left 1
  focus (intro w hSw; (try dsimp only at hSw); obtain ⟨c0_0, c0_1, c0_2, c0_3, c0_4, c0_5, c1_0, c1_1, c1_2, c1_3⟩ := HC.out w (HB6.out.trans (Below.mono hSw HB6.out.size)); go_simp; (try with_reducible rfl))
  (repeat (first | simp only [Act.put] | simp only [List.setIfInBounds_toArray] | simp only [List.set_cons_zero] | simp only [List.set_cons_succ]))
  refine AnyL.two (i := 2) (j := 4) (by kernel_rfl) rfl rfl (fun K hK => ?_) (fun K hK => ?_)
  · skip
    go_simp
    go_at_call 44
    refine (clipO_any _ _ _ _ hob hoc).mono ?_
    rintro e w9 ⟨rfl, hb9⟩
    have HB9 : Hid (Below W6.heap.size W6 w9) := Lib.hid ((show Below W6.heap.size W6 _ from (Below.drew (Below.refl _ _))).trans (hb9.mono (show Below W6.heap.size W6 _ from (Below.drew (Below.refl _ _))).size))
    clear hb9
    refine hK.out _ _ (fun _ => HB9.out) (fun hHeld => ?_)
    replace hHeld := hHeld (by kernel_rfl)
    clear hK K
    (repeat (first | simp only [Act.put] | simp only [List.setIfInBounds_toArray] | simp only [List.set_cons_zero] | simp only [List.set_cons_succ]))
    refine AnyL.one (i := 4) (by kernel_rfl) rfl (fun K hK => ?_)
    go_simp
    refine nameG (w := w9.alloc (.cells #[.int .i64 cx, .int .i64 fx, .int .u64 (sx : Int), .int .u64 (sy : Int)] 61)) (p := fun W => K _ W) fun w8 hw8 => ?_
    have hn8 : w8.heap[w9.heap.size]? = some (.cells #[.int .i64 cx, .int .i64 fx, .int .u64 (sx : Int), .int .u64 (sy : Int)] 61 (0, 0)) := by rw [hw8.out]; exact heap_alloc_new _ _
    have hb8 : Below W6.heap.size W6 w8 := by rw [hw8.out]; exact HB9.out.alloc HB9.out.size _
    have HN8 := Lib.hid hn8
    have HB8 := Lib.hid hb8
    obtain ⟨gn, hgn⟩ : ∃ g, g = w9.heap.size := ⟨_, rfl⟩
    rw [← hgn] at HN8 ⊢
    clear hw8 hn8 hb8 hgn HB9
    refine hK.out _ _ (fun _ => HB8.out) (fun hHeld => ?_)
    replace hHeld := hHeld (by kernel_rfl)
    clear hK K
    (repeat (first | simp only [Act.put] | simp only [List.setIfInBounds_toArray] | simp only [List.set_cons_zero] | simp only [List.set_cons_succ]))
    refine AnyL.one (i := 5) (by kernel_rfl) rfl (fun K hK => ?_)
    obtain ⟨ii, hii, hz0, hz1, hz2⟩ := info_parts Try.infoOpn
    refine step_grow rfl (.tmp 33) (.tmp 35) 30 rfl 61 ii _ 4 32 Try.underlying30 hii hz0 hz1 hz2 rfl (by decide) oA no (flatF (fun i j => opnC (opnN b.opns i) j) no 4) rfl (flatF_len _ _ _) HNA.out (flatF_holds (Cells.keep HCE.out fun p _ hp => (HW6.out.trans (HB8.out.mono HW6.out.size)).cell hp) (by decide)) gn [.int .i64 cx, .int .i64 fx, .int .u64 (sx : Int), .int .u64 (sy : Int)] rfl rfl (fun j u hj => ?_) (by simp [Value.oneCell']) (by unfold maxLen; omega) (by omega) ?_
    · rw [addr_add, Nat.zero_add]
      exact cell_of HN8.out (by simpa using hj)
    intro v6 w6 hown6 hg6
    obtain ⟨A6, c6, rfl⟩ := own_sl hown6
    have hb6' : Below W6.heap.size W6 w6 := HB8.out.grown hg6 HB8.out.size (fun q e => by cases e)
    have HB6' := Lib.hid hb6'
    have HO6 := Lib.hid hown6
    have HSZ8 := Lib.hid HB8.out.size
    have k0' := K0.out w6 (HB6.out.trans (hb6'.mono HB6.out.size))
    clear hown6 hg6 hb6' hz0 hz1 hz2 hii ii
    refine hK.out _ _ (fun _ => HB6'.out) (fun hHeld => ?_)
    replace hHeld := hHeld (by kernel_rfl)
    clear hK K
    (repeat (first | simp only [Act.put] | simp only [List.setIfInBounds_toArray] | simp only [List.set_cons_zero] | simp only [List.set_cons_succ]))
    refine AnyL.take (i := 6) (v := ?_) rfl (by kernel_rfl) (by kernel_rfl) (fun _ _ _ h => h) (by kernel_rfl) (by kernel_rfl) (by kernel_rfl) (Or.inl ⟨by rfl, ?_⟩) hHeld ?_
    rotate_left 1
    focus (intro w hSw; (try dsimp only at hSw); go_simp; (try with_reducible rfl))
    (repeat (first | simp only [Act.put] | simp only [List.setIfInBounds_toArray] | simp only [List.set_cons_zero] | simp only [List.set_cons_succ]))
    refine AnyL.one (i := 7) (by kernel_rfl) rfl (fun K hK => ?_)
    have y3 := cell_of (j := 5) k0' rfl
    have fy3 : w6.frozen? ⟨w.heap.size, 5, none⟩ = false := by simp [World.frozen?, k0']
    go_simp
    refine nameG (w := w6.setCell ⟨w.heap.size, 5, none⟩ (.slice A6 (no + 1) c6)) (p := fun W => K _ W) fun w5 hw5 => ?_
    have k5 : w5.heap[w.heap.size]? = some (.cells #[.slice cA n cc, .int .i64 thr, .int .u64 (rng : Int), .slice kA m kc, .slice rA nr rc, .slice A6 (no + 1) c6] 32 (0, 0)) := by
      have hx := Blk_set k0' (j := 5) (.slice A6 (no + 1) c6)
      rw [hw5.out, hx]; rfl
    have hk5 : ∀ q, q ≠ w.heap.size → w5.heap[q]? = w6.heap[q]? := fun q hq => by rw [hw5.out]; exact Below.heap_setCell _ _ _ _ hq
    have hb5 : Below w.heap.size w w5 := by rw [hw5.out]; exact (HW6.out.trans (HB6'.out.mono HW6.out.size)).setCell (Nat.le_refl _) _
    have kz := (hk5 B2 (by omega)).trans (KZ.out w6 (HB6.out.trans (HB6'.out.mono HB6.out.size)))
    have K5 := Lib.hid k5
    have KZ5 := Lib.hid kz
    have HB5 := Lib.hid hb5
    have HK5 := Lib.hid hk5
    clear hw5 k5 hk5 hb5 kz k0' y3 fy3
    refine hK.out _ _ (fun h => nomatch (show true = false from h)) (fun _ => ?_)
    clear hK K
    (try dsimp only)
    refine AnyL.done (by kernel_rfl) ?_
    have r0 := cell_of (j := 0) K5.out rfl
    have r1 := cell_of (j := 1) K5.out rfl
    have r2 := cell_of (j := 2) K5.out rfl
    have r3 := cell_of (j := 3) K5.out rfl
    have r4 := cell_of (j := 4) K5.out rfl
    have r5 := cell_of (j := 5) K5.out rfl
    have m0 := cell_of (j := 0) KZ5.out rfl
    have fm0 : w5.frozen? ⟨B2, 0, none⟩ = false := by simp [World.frozen?, KZ5.out]
    have m1 := cell_of (j := 1) KZ5.out rfl
    have fm1 : w5.frozen? ⟨B2, 1, none⟩ = false := by simp [World.frozen?, KZ5.out]
    have m2 := cell_of (j := 2) KZ5.out rfl
    have fm2 : w5.frozen? ⟨B2, 2, none⟩ = false := by simp [World.frozen?, KZ5.out]
    have m3 := cell_of (j := 3) KZ5.out rfl
    have fm3 : w5.frozen? ⟨B2, 3, none⟩ = false := by simp [World.frozen?, KZ5.out]
    have m4 := cell_of (j := 4) KZ5.out rfl
    have fm4 : w5.frozen? ⟨B2, 4, none⟩ = false := by simp [World.frozen?, KZ5.out]
    have m5 := cell_of (j := 5) KZ5.out rfl
    have fm5 : w5.frozen? ⟨B2, 5, none⟩ = false := by simp [World.frozen?, KZ5.out]
    go_wp2_with fail
    refine nameG (p := fun W => bodyPost Try.prog Try.f17 _ Exit.ret _ W) fun W7 hW7 => ?_
    have hk7 : W7.heap[B2]? = some (.cells #[.slice cA n cc, .int .i64 thr, .int .u64 (rng : Int), .slice kA m kc, .slice rA nr rc, .slice A6 (no + 1) c6] 32 (0, 0)) := by
      have hx := (Blk_set (Blk_set (Blk_set (Blk_set (Blk_set (Blk_set KZ5.out (j := 0) (.slice cA n cc)) (j := 1) (.int .i64 thr)) (j := 2) (.int .u64 (rng : Int))) (j := 3) (.slice kA m kc)) (j := 4) (.slice rA nr rc)) (j := 5) (.slice A6 (no + 1) c6))
      rw [hW7.out, hx]; rfl
    have j0 := cell_of (j := 0) hk7 rfl
    have j1 := cell_of (j := 1) hk7 rfl
    have j2 := cell_of (j := 2) hk7 rfl
    have j3 := cell_of (j := 3) hk7 rfl
    have j4 := cell_of (j := 4) hk7 rfl
    have j5 := cell_of (j := 5) hk7 rfl
    refine bodyPost_ret (v := .tuple #[.agg #[.slice cA n cc, .int .i64 thr, .int .u64 (rng : Int), .slice kA m kc, .slice rA nr rc, .slice A6 (no + 1) c6], .int .i64 0]) (by simp [results, Try.results17, go_sem, j0, j1, j2, j3, j4, j5]) rfl ?_

    have hb7 : Below w.heap.size w W7 := by rw [hW7.out]; exact ((((((HB5.out.setCell (by show w.heap.size ≤ B2; omega) _).setCell (by show w.heap.size ≤ B2; omega) _).setCell (by show w.heap.size ≤ B2; omega) _).setCell (by show w.heap.size ≤ B2; omega) _).setCell (by show w.heap.size ≤ B2; omega) _).setCell (by show w.heap.size ≤ B2; omega) _)
    have hW6w : w.heap.size < W6.heap.size := by have := HB6.out.size; omega
    have hB26 : B2 < W6.heap.size := by have := HB6.out.size; omega
    have hk7 : ∀ q, W6.heap.size ≤ q → W7.heap[q]? = w6.heap[q]? := fun q hq => by
      rw [hW7.out]
      repeat rw [Below.heap_setCell _ _ _ _ (show q ≠ B2 by omega)]
      exact HK5.out q (by omega)
    have hw8g : W6.heap.size ≤ w8.heap.size := HSZ8.out
    have ho7 : W7.ownsRow w8.heap.size 61 4 (.slice A6 (no + 1) c6) (no + 1) (flatF (fun i j => opnC (opnN b.opns i) j) no 4 ++ [.int .i64 cx, .int .i64 fx, .int .u64 (sx : Int), .int .u64 (sy : Int)]) := by
      obtain ⟨o1, o2⟩ := HO6.out
      refine ⟨o1, ?_⟩
      rcases o2 with o2 | ⟨q, cap, cur, q1, q2, q3, q4⟩
      · exact .inl o2
      · exact .inr ⟨q, cap, cur, q1, q2, (hk7 q (by omega)).trans q3, q4⟩

    obtain ⟨e1, e2, e3, e4, e5, e6⟩ := HE.out
    have hb69 := hb7
    refine ⟨_, by rw [HQ.out], ?_, hb7⟩
    rw [HQ.out]
    rw [HX.out.1, HX.out.2.1, HX.out.2.2.1, HX.out.2.2.2, e4] at ho7
    have hx3 : ∀ q, w8.heap.size ≤ q → ((fun q => M q ∨ w.heap.size ≤ q)) q := fun q h => Or.inr (by omega)
    have hrow := opns_snoc hx3 ho7
    have hcl : IsInts W7 (fun q => M q ∨ w.heap.size ≤ q) (.slice cA n cc) b.clubs := by rw [e1]; exact IsSl.mono (IsSl.below HI1.out hb7) (fun q _ h => Or.inl h) (by omega)
    rw [← e4] at hrow
    have hcm : IsComs W7 (fun q => M q ∨ w.heap.size ≤ q) (.slice kA m kc) b.coms := by rw [e2]; exact (HI2.out.below hb7).mono (fun q _ h => Or.inl h)
    have hrv : IsRevs W7 (fun q => M q ∨ w.heap.size ≤ q) (.slice rA nr rc) b.revs := by rw [e3]; exact IsSl.mono (IsSl.below HI3.out hb7) (fun q _ h => Or.inl h) (by omega)
    refine ⟨.slice cA n cc, .slice kA m kc, .slice rA nr rc, .slice A6 (no + 1) c6, ?_, hcl, hcm, hrv, hrow⟩
    rw [e5, e6]
  · skip
    go_simp
    refine nameG (w := W6.drew.alloc (.cells #[.int .i64 cx, .int .i64 fx, .int .u64 (sx : Int), .int .u64 (sy : Int)] 61)) (p := fun W => K _ W) fun w9 hw9 => ?_
    have hn8 : w9.heap[W6.heap.size]? = some (.cells #[.int .i64 cx, .int .i64 fx, .int .u64 (sx : Int), .int .u64 (sy : Int)] 61 (0, 0)) := by rw [hw9.out]; exact heap_alloc_new W6.drew _
    have HB9 : Hid (Below W6.heap.size W6 w9) := Lib.hid (by rw [hw9.out]; exact (Below.drew (Below.refl _ _)).alloc (Nat.le_refl _) _)
    have HN9 := Lib.hid hn8
    obtain ⟨gn, hgn⟩ : ∃ g, g = W6.heap.size := ⟨_, rfl⟩
    rw [← hgn]
    rw [← hgn] at HN9
    clear hw9 hn8 hgn
    refine hK.out _ _ (fun _ => HB9.out) (fun hHeld => ?_)
    replace hHeld := hHeld (by kernel_rfl)
    clear hK K
    (repeat (first | simp only [Act.put] | simp only [List.setIfInBounds_toArray] | simp only [List.set_cons_zero] | simp only [List.set_cons_succ]))
    refine AnyL.one (i := 2) (by kernel_rfl) rfl (fun K hK => ?_)
    go_simp
    go_at_call 44
    refine (clipO_any _ _ _ _ hob hoc).mono ?_
    rintro e w8 ⟨rfl, hb9⟩
    have HB8 : Hid (Below W6.heap.size W6 w8) := Lib.hid (HB9.out.trans (hb9.mono HB9.out.size))
    have HN8 := Lib.hid ((hb9.block _ (lt_heap HN9.out)).trans HN9.out)
    clear hb9 HN9 HB9
    refine hK.out _ _ (fun _ => HB8.out) (fun hHeld => ?_)
    replace hHeld := hHeld (by kernel_rfl)
    clear hK K
    (repeat (first | simp only [Act.put] | simp only [List.setIfInBounds_toArray] | simp only [List.set_cons_zero] | simp only [List.set_cons_succ]))
    refine AnyL.one (i := 5) (by kernel_rfl) rfl (fun K hK => ?_)
    obtain ⟨ii, hii, hz0, hz1, hz2⟩ := info_parts Try.infoOpn
    refine step_grow rfl (.tmp 33) (.tmp 35) 30 rfl 61 ii _ 4 32 Try.underlying30 hii hz0 hz1 hz2 rfl (by decide) oA no (flatF (fun i j => opnC (opnN b.opns i) j) no 4) rfl (flatF_len _ _ _) HNA.out (flatF_holds (Cells.keep HCE.out fun p _ hp => (HW6.out.trans (HB8.out.mono HW6.out.size)).cell hp) (by decide)) gn [.int .i64 cx, .int .i64 fx, .int .u64 (sx : Int), .int .u64 (sy : Int)] rfl rfl (fun j u hj => ?_) (by simp [Value.oneCell']) (by unfold maxLen; omega) (by omega) ?_
    · rw [addr_add, Nat.zero_add]
      exact cell_of HN8.out (by simpa using hj)
    intro v6 w6 hown6 hg6
    obtain ⟨A6, c6, rfl⟩ := own_sl hown6
    have hb6' : Below W6.heap.size W6 w6 := HB8.out.grown hg6 HB8.out.size (fun q e => by cases e)
    have HB6' := Lib.hid hb6'
    have HO6 := Lib.hid hown6
    have HSZ8 := Lib.hid HB8.out.size
    have k0' := K0.out w6 (HB6.out.trans (hb6'.mono HB6.out.size))
    clear hown6 hg6 hb6' hz0 hz1 hz2 hii ii
    refine hK.out _ _ (fun _ => HB6'.out) (fun hHeld => ?_)
    replace hHeld := hHeld (by kernel_rfl)
    clear hK K
    (repeat (first | simp only [Act.put] | simp only [List.setIfInBounds_toArray] | simp only [List.set_cons_zero] | simp only [List.set_cons_succ]))
    refine AnyL.take (i := 6) (v := ?_) rfl (by kernel_rfl) (by kernel_rfl) (fun _ _ _ h => h) (by kernel_rfl) (by kernel_rfl) (by kernel_rfl) (Or.inl ⟨by rfl, ?_⟩) hHeld ?_
    rotate_left 1
    focus (intro w hSw; (try dsimp only at hSw); go_simp; (try with_reducible rfl))
    (repeat (first | simp only [Act.put] | simp only [List.setIfInBounds_toArray] | simp only [List.set_cons_zero] | simp only [List.set_cons_succ]))
    refine AnyL.one (i := 7) (by kernel_rfl) rfl (fun K hK => ?_)
    have y3 := cell_of (j := 5) k0' rfl
    have fy3 : w6.frozen? ⟨w.heap.size, 5, none⟩ = false := by simp [World.frozen?, k0']
    go_simp
    refine nameG (w := w6.setCell ⟨w.heap.size, 5, none⟩ (.slice A6 (no + 1) c6)) (p := fun W => K _ W) fun w5 hw5 => ?_
    have k5 : w5.heap[w.heap.size]? = some (.cells #[.slice cA n cc, .int .i64 thr, .int .u64 (rng : Int), .slice kA m kc, .slice rA nr rc, .slice A6 (no + 1) c6] 32 (0, 0)) := by
      have hx := Blk_set k0' (j := 5) (.slice A6 (no + 1) c6)
      rw [hw5.out, hx]; rfl
    have hk5 : ∀ q, q ≠ w.heap.size → w5.heap[q]? = w6.heap[q]? := fun q hq => by rw [hw5.out]; exact Below.heap_setCell _ _ _ _ hq
    have hb5 : Below w.heap.size w w5 := by rw [hw5.out]; exact (HW6.out.trans (HB6'.out.mono HW6.out.size)).setCell (Nat.le_refl _) _
    have kz := (hk5 B2 (by omega)).trans (KZ.out w6 (HB6.out.trans (HB6'.out.mono HB6.out.size)))
    have K5 := Lib.hid k5
    have KZ5 := Lib.hid kz
    have HB5 := Lib.hid hb5
    have HK5 := Lib.hid hk5
    clear hw5 k5 hk5 hb5 kz k0' y3 fy3
    refine hK.out _ _ (fun h => nomatch (show true = false from h)) (fun _ => ?_)
    clear hK K
    (try dsimp only)
    refine AnyL.done (by kernel_rfl) ?_
    have r0 := cell_of (j := 0) K5.out rfl
    have r1 := cell_of (j := 1) K5.out rfl
    have r2 := cell_of (j := 2) K5.out rfl
    have r3 := cell_of (j := 3) K5.out rfl
    have r4 := cell_of (j := 4) K5.out rfl
    have r5 := cell_of (j := 5) K5.out rfl
    have m0 := cell_of (j := 0) KZ5.out rfl
    have fm0 : w5.frozen? ⟨B2, 0, none⟩ = false := by simp [World.frozen?, KZ5.out]
    have m1 := cell_of (j := 1) KZ5.out rfl
    have fm1 : w5.frozen? ⟨B2, 1, none⟩ = false := by simp [World.frozen?, KZ5.out]
    have m2 := cell_of (j := 2) KZ5.out rfl
    have fm2 : w5.frozen? ⟨B2, 2, none⟩ = false := by simp [World.frozen?, KZ5.out]
    have m3 := cell_of (j := 3) KZ5.out rfl
    have fm3 : w5.frozen? ⟨B2, 3, none⟩ = false := by simp [World.frozen?, KZ5.out]
    have m4 := cell_of (j := 4) KZ5.out rfl
    have fm4 : w5.frozen? ⟨B2, 4, none⟩ = false := by simp [World.frozen?, KZ5.out]
    have m5 := cell_of (j := 5) KZ5.out rfl
    have fm5 : w5.frozen? ⟨B2, 5, none⟩ = false := by simp [World.frozen?, KZ5.out]
    go_wp2_with fail
    refine nameG (p := fun W => bodyPost Try.prog Try.f17 _ Exit.ret _ W) fun W7 hW7 => ?_
    have hk7 : W7.heap[B2]? = some (.cells #[.slice cA n cc, .int .i64 thr, .int .u64 (rng : Int), .slice kA m kc, .slice rA nr rc, .slice A6 (no + 1) c6] 32 (0, 0)) := by
      have hx := (Blk_set (Blk_set (Blk_set (Blk_set (Blk_set (Blk_set KZ5.out (j := 0) (.slice cA n cc)) (j := 1) (.int .i64 thr)) (j := 2) (.int .u64 (rng : Int))) (j := 3) (.slice kA m kc)) (j := 4) (.slice rA nr rc)) (j := 5) (.slice A6 (no + 1) c6))
      rw [hW7.out, hx]; rfl
    have j0 := cell_of (j := 0) hk7 rfl
    have j1 := cell_of (j := 1) hk7 rfl
    have j2 := cell_of (j := 2) hk7 rfl
    have j3 := cell_of (j := 3) hk7 rfl
    have j4 := cell_of (j := 4) hk7 rfl
    have j5 := cell_of (j := 5) hk7 rfl
    refine bodyPost_ret (v := .tuple #[.agg #[.slice cA n cc, .int .i64 thr, .int .u64 (rng : Int), .slice kA m kc, .slice rA nr rc, .slice A6 (no + 1) c6], .int .i64 0]) (by simp [results, Try.results17, go_sem, j0, j1, j2, j3, j4, j5]) rfl ?_

    have hb7 : Below w.heap.size w W7 := by rw [hW7.out]; exact ((((((HB5.out.setCell (by show w.heap.size ≤ B2; omega) _).setCell (by show w.heap.size ≤ B2; omega) _).setCell (by show w.heap.size ≤ B2; omega) _).setCell (by show w.heap.size ≤ B2; omega) _).setCell (by show w.heap.size ≤ B2; omega) _).setCell (by show w.heap.size ≤ B2; omega) _)
    have hW6w : w.heap.size < W6.heap.size := by have := HB6.out.size; omega
    have hB26 : B2 < W6.heap.size := by have := HB6.out.size; omega
    have hk7 : ∀ q, W6.heap.size ≤ q → W7.heap[q]? = w6.heap[q]? := fun q hq => by
      rw [hW7.out]
      repeat rw [Below.heap_setCell _ _ _ _ (show q ≠ B2 by omega)]
      exact HK5.out q (by omega)
    have hw8g : W6.heap.size ≤ w8.heap.size := HSZ8.out
    have ho7 : W7.ownsRow w8.heap.size 61 4 (.slice A6 (no + 1) c6) (no + 1) (flatF (fun i j => opnC (opnN b.opns i) j) no 4 ++ [.int .i64 cx, .int .i64 fx, .int .u64 (sx : Int), .int .u64 (sy : Int)]) := by
      obtain ⟨o1, o2⟩ := HO6.out
      refine ⟨o1, ?_⟩
      rcases o2 with o2 | ⟨q, cap, cur, q1, q2, q3, q4⟩
      · exact .inl o2
      · exact .inr ⟨q, cap, cur, q1, q2, (hk7 q (by omega)).trans q3, q4⟩

    obtain ⟨e1, e2, e3, e4, e5, e6⟩ := HE.out
    have hb69 := hb7
    refine ⟨_, by rw [HQ.out], ?_, hb7⟩
    rw [HQ.out]
    rw [HX.out.1, HX.out.2.1, HX.out.2.2.1, HX.out.2.2.2, e4] at ho7
    have hx3 : ∀ q, w8.heap.size ≤ q → ((fun q => M q ∨ w.heap.size ≤ q)) q := fun q h => Or.inr (by omega)
    have hrow := opns_snoc hx3 ho7
    have hcl : IsInts W7 (fun q => M q ∨ w.heap.size ≤ q) (.slice cA n cc) b.clubs := by rw [e1]; exact IsSl.mono (IsSl.below HI1.out hb7) (fun q _ h => Or.inl h) (by omega)
    rw [← e4] at hrow
    have hcm : IsComs W7 (fun q => M q ∨ w.heap.size ≤ q) (.slice kA m kc) b.coms := by rw [e2]; exact (HI2.out.below hb7).mono (fun q _ h => Or.inl h)
    have hrv : IsRevs W7 (fun q => M q ∨ w.heap.size ≤ q) (.slice rA nr rc) b.revs := by rw [e3]; exact IsSl.mono (IsSl.below HI3.out hb7) (fun q _ h => Or.inl h) (by omega)
    refine ⟨.slice cA n cc, .slice kA m kc, .slice rA nr rc, .slice A6 (no + 1) c6, ?_, hcl, hcm, hrv, hrow⟩
    rw [e5, e6]
end Go.Proofs.Ytgaanndidcdbpaa
