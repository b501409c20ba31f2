import Derived.Test.YtgaanndidcdbpaaT4
import Derived.Test.YtgaanndidcdbpaaZE
import Derived.BigQuiet
import Derived.DeepKeys4
import Derived.Shelf.Abstract
/- openFits. -/
namespace Go.Proofs.Ytgaanndidcdbpaa
open Go.RowKit Go.Shelf

theorem placeTo_lt {cl : List Int} {c : Int} {i : Nat} : ∀ k, placeTo cl k c = some i → i < k
  | 0, h => by cases h
  | k + 1, h => by
    have h : (if c = nthI cl k then some k else placeTo cl k c) = some i := h
    by_cases e : c = nthI cl k
    · rw [if_pos e] at h; injection h with h; omega
    · rw [if_neg e] at h; have := placeTo_lt k h; omega
theorem place_le (b : BeaD) (hs : SmallB b) (c : Int) : (placeD b c).getD 0 ≤ 1000 := by
  unfold placeD
  cases e : placeTo b.clubs b.clubs.length c with
  | none => simp
  | some i => have := placeTo_lt _ e; have := hs.cl; show i ≤ 1000; omega
set_option maxRecDepth 20000 in
set_option maxHeartbeats 8000000 in
theorem openFits_any (w : World) (M : Nat → Prop) (v : Value) (b : BeaD) (o : OpnD) (h : IsBoard w M v b) (hs : SmallB b) (hc : W64 o.club) (hf : W64 o.frm) : Calls Try.prog 43 #[v, .agg #[.int .i64 o.club, .int .i64 o.frm, .int .u64 (o.sh.1 : Int), .int .u64 (o.sh.2 : Int)]] w fun e w' => e = .returned (.bool (opnB b o)) ∧ Below w.heap.size w w' := by
  have HBD := Lib.hid h
  obtain ⟨cA, cc, kA, kc, rA, rc, oA, oc, bp, bc, rfl, i1, i2, i3, i4, i5⟩ := h.parts
  have HC64 := Lib.hid hc
  have HF64 := Lib.hid hf
  obtain ⟨z, hz⟩ : ∃ z, z = opnB b o := ⟨_, rfl⟩
  have HZ := Lib.hid hz
  rw [← hz]
  have D1 := Lib.hid (fun (W : World) (hb : Below w.heap.size w W) => Lib.hid (member_any W M _ b (HBD.out.below hb) o.club HC64.out))
  have D2 := Lib.hid (fun (W : World) (hb : Below w.heap.size w W) => Lib.hid (member_any W M _ b (HBD.out.below hb) o.frm HF64.out))
  have HL := com_look i5 hc
  have HP := Lib.hid (place_look i5 hf)
  have hpi := place_le b hs o.frm
  clear h i1 i2 i3 i4 i5 hz hc hf hs
  obtain ⟨n, hn⟩ : ∃ n, n = b.clubs.length := ⟨_, rfl⟩
  obtain ⟨m, hm⟩ : ∃ n, n = b.coms.length := ⟨_, rfl⟩
  obtain ⟨nr, hnr⟩ : ∃ n, n = b.revs.length := ⟨_, rfl⟩
  obtain ⟨no, hno⟩ : ∃ n, n = b.opns.length := ⟨_, rfl⟩
  obtain ⟨thr, hthr⟩ : ∃ n, n = b.thr := ⟨_, rfl⟩
  obtain ⟨rng, hrng⟩ : ∃ n, n = b.rng := ⟨_, rfl⟩
  obtain ⟨dz, hdz⟩ : ∃ n, n = doneB b := ⟨_, rfl⟩
  rw [← hn, ← hm, ← hnr, ← hno, ← hthr, ← hrng, ← hdz] at D1 D2 ⊢
  obtain ⟨mb, hmb⟩ : ∃ x, x = memB b o.club := ⟨_, rfl⟩
  rw [← hmb] at D1
  have HMB := Lib.hid hmb
  obtain ⟨mf, hmf⟩ : ∃ x, x = memB b o.frm := ⟨_, rfl⟩
  rw [← hmf] at D2
  have HMF := Lib.hid hmf
  obtain ⟨pz, hpz⟩ : ∃ x, x = (placeD b o.frm).getD 0 := ⟨_, rfl⟩
  rw [← hpz] at HP hpi
  have HPZ := Lib.hid hpz
  obtain ⟨ox, hox⟩ : ∃ x, x = o.club := ⟨_, rfl⟩
  obtain ⟨fx, hfx⟩ : ∃ x, x = o.frm := ⟨_, rfl⟩
  obtain ⟨sx, hsx⟩ : ∃ x, x = o.sh.1 := ⟨_, rfl⟩
  obtain ⟨sy, hsy⟩ : ∃ x, x = o.sh.2 := ⟨_, rfl⟩
  have HOX := Lib.hid (And.intro hox (And.intro hfx (show o.sh = (sx, sy) by rw [hsx, hsy])))
  have HSX := Lib.hid hsx
  rw [← hox] at D1 HL ⊢
  rw [← hfx] at D2 HP ⊢
  rw [← hsx, ← hsy]
  clear hn hm hnr hno hthr hrng hdz hmb hmf hpz hox hfx hsx hsy
  go_enter Try.func43, Try.ntmps43
  go_upto_region 1 with fail
  refine nameC fun W1 hW1 => ?_
  have hb1 : Below w.heap.size w W1 := by rw [hW1.out]; exact ((Below.refl _ _).alloc (Nat.le_refl _) _).alloc (by simp) _
  have k0 : W1.heap[w.heap.size]? = some (.cells #[.slice cA n cc, .int .i64 thr, .int .u64 (rng : Int), .slice kA m kc, .slice rA nr rc, .slice oA no oc, .map (some bp), .map (some bc), .bool dz] 89 (0, 0)) := by rw [hW1.out]; simp only [heap_alloc_if, World.size_alloc]; rw [if_neg (by omega)]; rw [if_pos trivial]
  have k1 : W1.heap[w.heap.size + 1]? = some (.cells #[.int .i64 ox, .int .i64 fx, .int .u64 (sx : Int), .int .u64 (sy : Int)] 61 (0, 0)) := by rw [hW1.out]; simp only [heap_alloc_if, World.size_alloc]; rw [if_pos trivial]
  obtain ⟨B1, hB1⟩ : ∃ B, B = w.heap.size + 1 := ⟨_, rfl⟩
  rw [← hB1] at k1 ⊢
  have HC := Lib.hid (show ∀ W', Below W1.heap.size W1 W' → (W'.cell? ⟨w.heap.size, 0, none⟩ = some (.slice cA n cc) ∧ W'.cell? ⟨w.heap.size, 1, none⟩ = some (.int .i64 thr) ∧ W'.cell? ⟨w.heap.size, 2, none⟩ = some (.int .u64 (rng : Int)) ∧ W'.cell? ⟨w.heap.size, 3, none⟩ = some (.slice kA m kc) ∧ W'.cell? ⟨w.heap.size, 4, none⟩ = some (.slice rA nr rc) ∧ W'.cell? ⟨w.heap.size, 5, none⟩ = some (.slice oA no oc) ∧ W'.cell? ⟨w.heap.size, 6, none⟩ = some (.map (some bp)) ∧ W'.cell? ⟨w.heap.size, 7, none⟩ = some (.map (some bc)) ∧ W'.cell? ⟨w.heap.size, 8, none⟩ = some (.bool dz) ∧ W'.cell? ⟨B1, 0, none⟩ = some (.int .i64 ox) ∧ W'.cell? ⟨B1, 1, none⟩ = some (.int .i64 fx) ∧ W'.cell? ⟨B1, 2, none⟩ = some (.int .u64 (sx : Int)) ∧ W'.cell? ⟨B1, 3, none⟩ = some (.int .u64 (sy : Int))) from fun W' h => by
    have e0 := (h.block _ (lt_heap k0)).trans k0
    have e1 := (h.block _ (lt_heap k1)).trans k1
    exact ⟨cell_of e0 rfl, cell_of e0 rfl, cell_of e0 rfl, cell_of e0 rfl, cell_of e0 rfl, cell_of e0 rfl, cell_of e0 rfl, cell_of e0 rfl, cell_of e0 rfl, cell_of e1 rfl, cell_of e1 rfl, cell_of e1 rfl, cell_of e1 rfl⟩)
  have HB1 := Lib.hid hb1
  clear hW1 hb1 k0 k1 hB1
  obtain ⟨c0_0, c0_1, c0_2, c0_3, c0_4, c0_5, c0_6, c0_7, c0_8, c1_0, c1_1, c1_2, c1_3⟩ := HC.out _ (Below.refl _ _)
  rcases HL with ⟨e1, hl⟩ | ⟨c, uA, uc, e1, hu, -, hl⟩
  · have HQ := Lib.hid (show false = z by rw [HZ.out]; unfold opnB; rw [← HOX.out.1, e1])
    clear e1
    have hlk := hl W1 HB1.out
    go_upto_region 2 with fail
    refine nameC fun W2 hW2 => ?_
    have hb2 : Below W1.heap.size W1 W2 := by rw [hW2.out]; exact (Below.refl _ _).alloc (Nat.le_refl _) _
    have k2 : W2.heap[W1.heap.size]? = some (.cells #[.int .i64 0, .slice none 0 0] 64 (0, 0)) := by rw [hW2.out]; exact heap_alloc_new _ _
    obtain ⟨B2, hB2⟩ : ∃ B, B = W1.heap.size := ⟨_, rfl⟩
    rw [← hB2] at k2 ⊢
    have HBW := Lib.hid (HB1.out.trans (hb2.mono HB1.out.size))
    have HC2 := Lib.hid (show ∀ W', Below W2.heap.size W2 W' → (W'.cell? ⟨w.heap.size, 0, none⟩ = some (.slice cA n cc) ∧ W'.cell? ⟨w.heap.size, 1, none⟩ = some (.int .i64 thr) ∧ W'.cell? ⟨w.heap.size, 2, none⟩ = some (.int .u64 (rng : Int)) ∧ W'.cell? ⟨w.heap.size, 3, none⟩ = some (.slice kA m kc) ∧ W'.cell? ⟨w.heap.size, 4, none⟩ = some (.slice rA nr rc) ∧ W'.cell? ⟨w.heap.size, 5, none⟩ = some (.slice oA no oc) ∧ W'.cell? ⟨w.heap.size, 6, none⟩ = some (.map (some bp)) ∧ W'.cell? ⟨w.heap.size, 7, none⟩ = some (.map (some bc)) ∧ W'.cell? ⟨w.heap.size, 8, none⟩ = some (.bool dz) ∧ W'.cell? ⟨B1, 0, none⟩ = some (.int .i64 ox) ∧ W'.cell? ⟨B1, 1, none⟩ = some (.int .i64 fx) ∧ W'.cell? ⟨B1, 2, none⟩ = some (.int .u64 (sx : Int)) ∧ W'.cell? ⟨B1, 3, none⟩ = some (.int .u64 (sy : Int)) ∧ W'.cell? ⟨B2, 0, none⟩ = some (.int .i64 0) ∧ W'.cell? ⟨B2, 1, none⟩ = some (.slice none 0 0)) from fun W' hh => by
      have e2 := (hh.block _ (lt_heap k2)).trans k2
      obtain ⟨c0_0, c0_1, c0_2, c0_3, c0_4, c0_5, c0_6, c0_7, c0_8, c1_0, c1_1, c1_2, c1_3⟩ := HC.out W' (hb2.trans (hh.mono hb2.size))
      exact ⟨c0_0, c0_1, c0_2, c0_3, c0_4, c0_5, c0_6, c0_7, c0_8, c1_0, c1_1, c1_2, c1_3, cell_of e2 rfl, cell_of e2 rfl⟩)
    clear hW2 hb2 k2 hB2 hlk hl c0_0 c0_1 c0_2 c0_3 c0_4 c0_5 c0_6 c0_7 c0_8 c1_0 c1_1 c1_2 c1_3
    obtain ⟨c0_0, c0_1, c0_2, c0_3, c0_4, c0_5, c0_6, c0_7, c0_8, c1_0, c1_1, c1_2, c1_3, c2_0, c2_1⟩ := HC2.out _ (Below.refl _ _)
    go_wp2_with fail
    go_ret
    exact ⟨ret_bool HQ.out, HBW.out⟩
  have HZ2 := Lib.hid (show z = (mb && (mf && (decide (ox ≠ fx) && (Nat.beq sx (pz + 1) && verD c.checks (sx, sy))))) by rw [HZ.out]; unfold opnB; rw [← HOX.out.1, e1, HMB.out, HMF.out, HPZ.out, HOX.out.1, HOX.out.2.1, HSX.out, HOX.out.2.2])
  have HU := Lib.hid hu
  have D3 := Lib.hid (fun (W : World) (hb : Below w.heap.size w W) => Lib.hid (verify_any W M _ c.checks (IsSl.below HU.out hb) sx sy))
  obtain ⟨ver, hver⟩ : ∃ x, x = verD c.checks (sx, sy) := ⟨_, rfl⟩
  rw [← hver] at HZ2 D3
  obtain ⟨cx, hcx⟩ : ∃ x, x = c.club := ⟨_, rfl⟩
  obtain ⟨ul, hul'⟩ : ∃ x, x = c.checks.length := ⟨_, rfl⟩
  rw [← hcx, ← hul'] at hl
  rw [← hul'] at D3
  clear e1 hu hcx hul' HU hver
  have hlk := hl W1 HB1.out
  go_upto_region 2 with fail
  refine nameC fun W2 hW2 => ?_
  have hb2 : Below W1.heap.size W1 W2 := by rw [hW2.out]; exact (Below.refl _ _).alloc (Nat.le_refl _) _
  have k2 : W2.heap[W1.heap.size]? = some (.cells #[.int .i64 cx, .slice uA ul uc] 64 (0, 0)) := by rw [hW2.out]; exact heap_alloc_new _ _
  obtain ⟨B2, hB2⟩ : ∃ B, B = W1.heap.size := ⟨_, rfl⟩
  rw [← hB2] at k2 ⊢
  have HBW := Lib.hid (HB1.out.trans (hb2.mono HB1.out.size))
  have HC2 := Lib.hid (show ∀ W', Below W2.heap.size W2 W' → (W'.cell? ⟨w.heap.size, 0, none⟩ = some (.slice cA n cc) ∧ W'.cell? ⟨w.heap.size, 1, none⟩ = some (.int .i64 thr) ∧ W'.cell? ⟨w.heap.size, 2, none⟩ = some (.int .u64 (rng : Int)) ∧ W'.cell? ⟨w.heap.size, 3, none⟩ = some (.slice kA m kc) ∧ W'.cell? ⟨w.heap.size, 4, none⟩ = some (.slice rA nr rc) ∧ W'.cell? ⟨w.heap.size, 5, none⟩ = some (.slice oA no oc) ∧ W'.cell? ⟨w.heap.size, 6, none⟩ = some (.map (some bp)) ∧ W'.cell? ⟨w.heap.size, 7, none⟩ = some (.map (some bc)) ∧ W'.cell? ⟨w.heap.size, 8, none⟩ = some (.bool dz) ∧ W'.cell? ⟨B1, 0, none⟩ = some (.int .i64 ox) ∧ W'.cell? ⟨B1, 1, none⟩ = some (.int .i64 fx) ∧ W'.cell? ⟨B1, 2, none⟩ = some (.int .u64 (sx : Int)) ∧ W'.cell? ⟨B1, 3, none⟩ = some (.int .u64 (sy : Int)) ∧ W'.cell? ⟨B2, 0, none⟩ = some (.int .i64 cx) ∧ W'.cell? ⟨B2, 1, none⟩ = some (.slice uA ul uc)) from fun W' hh => by
    have e2 := (hh.block _ (lt_heap k2)).trans k2
    obtain ⟨c0_0, c0_1, c0_2, c0_3, c0_4, c0_5, c0_6, c0_7, c0_8, c1_0, c1_1, c1_2, c1_3⟩ := HC.out W' (hb2.trans (hh.mono hb2.size))
    exact ⟨c0_0, c0_1, c0_2, c0_3, c0_4, c0_5, c0_6, c0_7, c0_8, c1_0, c1_1, c1_2, c1_3, cell_of e2 rfl, cell_of e2 rfl⟩)
  clear hW2 hb2 k2 hB2 hlk hl c0_0 c0_1 c0_2 c0_3 c0_4 c0_5 c0_6 c0_7 c0_8 c1_0 c1_1 c1_2 c1_3
  obtain ⟨c0_0, c0_1, c0_2, c0_3, c0_4, c0_5, c0_6, c0_7, c0_8, c1_0, c1_1, c1_2, c1_3, c2_0, c2_1⟩ := HC2.out _ (Below.refl _ _)
  go_wp2_with fail
  refine ((D1.out _ HBW.out).out).mono ?_
  rintro e W3 ⟨rfl, hb⟩
  have HBW3 : Hid (Below W2.heap.size W2 W3) := Lib.hid hb
  clear hb c0_0 c0_1 c0_2 c0_3 c0_4 c0_5 c0_6 c0_7 c0_8 c1_0 c1_1 c1_2 c1_3 c2_0 c2_1
  obtain ⟨c0_0, c0_1, c0_2, c0_3, c0_4, c0_5, c0_6, c0_7, c0_8, c1_0, c1_1, c1_2, c1_3, c2_0, c2_1⟩ := HC2.out _ HBW3.out
  cases mb
  · have HQ := Lib.hid (show false = z by rw [HZ2.out]; rfl)
    go_wp2_with fail
    go_ret
    exact ⟨ret_bool HQ.out, HBW.out.trans (HBW3.out.mono HBW.out.size)⟩
  go_wp2_with fail
  refine ((D2.out _ (HBW.out.trans (HBW3.out.mono HBW.out.size))).out).mono ?_
  rintro e W4 ⟨rfl, hb⟩
  have HBW4 : Hid (Below W2.heap.size W2 W4) := Lib.hid (HBW3.out.trans (hb.mono HBW3.out.size))
  clear hb c0_0 c0_1 c0_2 c0_3 c0_4 c0_5 c0_6 c0_7 c0_8 c1_0 c1_1 c1_2 c1_3 c2_0 c2_1
  obtain ⟨c0_0, c0_1, c0_2, c0_3, c0_4, c0_5, c0_6, c0_7, c0_8, c1_0, c1_1, c1_2, c1_3, c2_0, c2_1⟩ := HC2.out _ HBW4.out
  cases mf
  · have HQ := Lib.hid (show false = z by rw [HZ2.out]; rfl)
    go_wp2_with fail
    go_ret
    exact ⟨ret_bool HQ.out, HBW.out.trans (HBW4.out.mono HBW.out.size)⟩
  by_cases t1 : ox = fx
  · have d1 : (ox != fx) = false := by rw [bne_eq_false_iff_eq]; exact t1
    have HQ := Lib.hid (show false = z by rw [HZ2.out, decide_eq_false (by simpa using t1)]; rfl)
    clear t1
    go_wp2_with fail
    go_ret
    exact ⟨ret_bool HQ.out, HBW.out.trans (HBW4.out.mono HBW.out.size)⟩
  have d1 : (ox != fx) = true := by rw [bne_iff_ne]; exact t1
  have hpl := HP.out W4 (HBW.out.trans (HBW4.out.mono HBW.out.size))
  have hw1 : IntKind.i64.wrap ((pz : Int) + 1) = (pz : Int) + 1 := IntWalk.i64_in _ (by omega)
  have hw2 : IntKind.u64.wrap ((pz : Int) + 1) = (pz : Int) + 1 := IntWalk.u64_in _ (by omega)
  by_cases t2 : sx = pz + 1
  case neg =>
    have d2 : ((sx : Int) == (pz : Int) + 1) = false := by rw [beq_eq_false_iff_ne]; omega
    have HQ := Lib.hid (show false = z by rw [HZ2.out, decide_eq_true t1, show Nat.beq sx (pz + 1) = false from Bool.eq_false_iff.2 fun e => t2 (Nat.eq_of_beq_eq_true e)]; rfl)
    clear t1 t2
    go_wp2_with fail
    go_ret
    exact ⟨ret_bool HQ.out, HBW.out.trans (HBW4.out.mono HBW.out.size)⟩
  have d2 : ((sx : Int) == (pz : Int) + 1) = true := by rw [beq_iff_eq]; omega
  have HQ := Lib.hid (show ver = z by rw [HZ2.out, decide_eq_true t1, t2, show Nat.beq (pz + 1) (pz + 1) = true from Nat.beq_refl _]; rfl)
  clear t1 t2
  go_wp2_with fail
  refine ((D3.out _ (HBW.out.trans (HBW4.out.mono HBW.out.size))).out).mono ?_
  rintro e W5 ⟨rfl, hb⟩
  have HBW5 : Hid (Below W2.heap.size W2 W5) := Lib.hid (HBW4.out.trans (hb.mono HBW4.out.size))
  clear hb c0_0 c0_1 c0_2 c0_3 c0_4 c0_5 c0_6 c0_7 c0_8 c1_0 c1_1 c1_2 c1_3 c2_0 c2_1
  go_wp2_with fail
  go_ret
  exact ⟨ret_bool HQ.out, HBW.out.trans (HBW5.out.mono HBW.out.size)⟩
end Go.Proofs.Ytgaanndidcdbpaa
/- distinct, at commitments, reveals and opened shares. -/
namespace Go.Proofs.Ytgaanndidcdbpaa
open Go.RowKit Go.Shelf

theorem Try.row2i : (139 : TypeId) < Try.prog.types.size := of_decide_eq_true (by kernel_rfl)
theorem Try.cells2i : Try.prog.cellsOf 139 = 2 := by kernel_rfl
theorem Try.cells1i : Try.prog.cellsOf 3 = 1 := by kernel_rfl
theorem Try.wide2i : (match Try.prog.underlying 139 with | some (.array _ _) | some (.struct _) => true | _ => false) = true := by rw [Try.underlying139]
set_option maxRecDepth 100000 in
theorem Try.keyed2i : Go.Maps.Keyed Try.prog 139 := Go.Maps.Keyed.of_law (deep_law_laid (by kernel_rfl) (m := 2) (by omega) Try.row2i (by kernel_rfl) Try.wide2i)
theorem Try.keyType2i : Try.prog.keyType 139 = true := by kernel_rfl
/-- a pair of ints as a key -/
def ikv2 (f : Int × Int) : Value := .agg #[.int .i64 f.1, .int .i64 f.2]
theorem lits_int (P : Program) {t : TypeId} {q : IntKind} (hu : P.underlying t = some (.int q)) (d : Nat) (x : Int) (h : (Lit.int q x).wf = true) : P.keyLits (d + 1) t [.int q x] = some [.int q x] := by
  simp only [Program.keyLits, hu, h, and_self, if_pos]
set_option maxRecDepth 100000 in
theorem lits_2i (d : Nat) (x y : Int) (h1 : (Lit.int .i64 x).wf = true) (h2 : (Lit.int .i64 y).wf = true) : Try.prog.keyLits (d + 1 + 1) 139 [.int .i64 x, .int .i64 y] = some [.int .i64 x, .int .i64 y] := by
  conv => lhs; unfold Program.keyLits
  rw [Try.underlying139]
  have e1 := lits_int Try.prog Try.underlying3 d x h1
  have e2 := lits_int Try.prog Try.underlying3 d y h2
  have e0 : List.range 2 = [0, 1] := rfl
  simp only [Try.cells2i, Try.cells1i, List.length_cons, List.length_nil, e0, List.mapM_cons, List.mapM_nil, Nat.zero_mul, Nat.one_mul, List.drop_zero, List.drop_succ_cons, List.take_succ_cons, List.take_zero, e1, e2]
  rfl
set_option maxRecDepth 100000 in
theorem key_2i (f : Int × Int) (h1 : (Lit.int .i64 f.1).wf = true) (h2 : (Lit.int .i64 f.2).wf = true) : ∃ l, keyOf Try.prog 139 (ikv2 f) = some l := by
  obtain ⟨m, hm⟩ : ∃ m, Try.prog.types.size = m + 1 := ⟨Try.prog.types.size - 1, (Nat.succ_pred_eq_of_pos (Nat.lt_of_le_of_lt (Nat.zero_le _) Try.row2i)).symm⟩
  have hf : (Value.agg #[.int .i64 f.1, .int .i64 f.2]).formed Try.prog 139 = true := by
    unfold Value.formed
    rw [Try.underlying139, Try.cells2i]
    rfl
  have hl := lits_2i m f.1 f.2 h1 h2
  unfold keyOf ikv2
  rw [Try.underlying139]
  simp only [hf, Try.keyType2i, hm, Bool.and_self, if_pos, Value.cells]
  rw [hl]
  exact ⟨_, rfl⟩
theorem ikv2_inj (x y : Int × Int) (h : ikv2 x = ikv2 y) : x = y := by
  unfold ikv2 at h
  simp only [Value.agg.injEq, Array.mk.injEq, List.cons.injEq, Value.int.injEq, true_and, and_true] at h
  exact Prod.ext h.1 h.2
/-- the keys met -/
def metV {X : Type} [DecidableEq X] (f : Nat → X) (k : Nat) (c : X) : Option Value := if (List.range k).any (fun i => decide (c = f i)) then some (.bool true) else none
theorem metV_zero {X : Type} [DecidableEq X] (f : Nat → X) : metV f 0 = fun _ => none := rfl
theorem metV_succ {X : Type} [DecidableEq X] (f : Nat → X) (k : Nat) : updM (metV f k) (f k) (.bool true) = metV f (k + 1) := by
  funext c
  unfold updM metV
  rw [List.range_succ, List.any_append]
  by_cases h : c = f k
  · rw [if_pos h, if_pos]; simp [h]
  · rw [if_neg h]; simp [h]
theorem metV_has {X : Type} [DecidableEq X] (f : Nat → X) (k : Nat) (c : X) : (metV f k c).isSome = (List.range k).any (fun i => decide (c = f i)) := by
  unfold metV
  cases (List.range k).any (fun i => decide (c = f i)) <;> rfl
theorem keyC_any (cx : Int) (uA : Option Addr) (ul uc : Nat) (w : World) : Calls Try.prog 68 #[.agg #[.int .i64 cx, .slice uA ul uc]] w fun e w' => e = .returned (.int .i64 cx) ∧ Below w.heap.size w w' := by
  go_enter Try.func68, Try.ntmps68
  go_wp2_with fail
  go_ret
  exact ⟨rfl, (Below.refl _ _).alloc (Nat.le_refl _) _⟩
set_option maxRecDepth 20000 in
set_option maxHeartbeats 4000000 in
theorem distC_any (w : World) (M : Nat → Prop) (v : Value) (l : List ComD) (h : IsComs w M v l) (hl : l.length ≤ 1000) (hW : ∀ i, i < l.length → W64 (comN l i).club) : Calls Try.prog 67 #[v, .func (.func 68) #[] #[]] w fun e w' => e = .returned (.bool (distB (fun i => (comN l i).club) l.length)) ∧ Below w.heap.size w w' := by
  have HI := Lib.hid h
  obtain ⟨A, c, rfl, -⟩ := HI.out.len
  have hmk : ∀ W, (Instr.makeMap 46 none).run Try.prog W = .ok (.map (some W.heap.size)) (W.alloc (.map #[] 0)) := fun W => rfl
  obtain ⟨f, hf⟩ : ∃ f : Nat → Int, f = fun i => (comN l i).club := ⟨_, rfl⟩
  have HF := Lib.hid hf
  have HENT := Lib.hid (enters_of Try.func68 (by kernel_rfl) rfl)
  rw [← hf]
  clear h hf
  obtain ⟨bm, hbm⟩ : ∃ bm, bm = w.heap.size := ⟨_, rfl⟩
  go_enter Try.func67, Try.ntmps67
  go_upto_region 2 with fail
  refine nameC fun W1 hW1 => ?_
  have hm1 : MapV ikv Try.prog 3 W1 w.heap.size 0 0 (metV f 0) := by rw [hW1.out]; exact MapV.made w
  have hb1 : Below w.heap.size w W1 := by rw [hW1.out]; exact (Below.refl _ _).alloc (Nat.le_refl _) _
  rw [← hbm] at hm1 ⊢
  have HM1 := Lib.hid hm1
  have HB1 := Lib.hid hb1
  have HBM := Lib.hid hbm
  clear hW1 hm1 hb1 hbm hmk
  go_wp2_with fail
  go_loopw [11] (fun s11 wr => ∃ k : Nat, k ≤ l.length ∧ s11 = .int .i64 (k : Int) ∧ Hid (MapV ikv Try.prog 3 wr bm k (cntTo f k) (metV f k)) ∧ Hid (Below w.heap.size w wr)) (fun s11 _ => l.length - (intOf s11).toNat)
  case atStart => exact ⟨0, Nat.zero_le _, rfl, HM1, by rw [HBM.out] at *; exact HB1⟩
  case round =>
    clear HM1 HB1
    obtain ⟨k, hk, rfl, HM, HB⟩ := hrel
    by_cases hlt : k < l.length
    · have hk1 : (k : Int) < (l.length : Int) := by omega
      have hk0 : (0 : Int) ≤ (k : Int) := by omega
      obtain ⟨g, off, uA, uc, rfl, hgl, hc0, hc1, -⟩ := HI.out.at_ HB.out hlt
      obtain ⟨ul, hul⟩ : ∃ x, x = (comN l k).checks.length := ⟨_, rfl⟩
      rw [← hul] at hc1
      clear hul
      obtain ⟨cx, hcx⟩ : ∃ x, x = (comN l k).club := ⟨_, rfl⟩
      rw [← hcx] at hc0
      have HCX := Lib.hid (show f k = cx by rw [HF.out, hcx])
      have hw := hW k hlt
      rw [← hcx] at hw
      have HKEY := Lib.hid (Maps.keyOf_int_mk Try.underlying3 hw.wf)
      clear hcx hw
      have HSUC := Lib.hid (metV_succ f k)
      have HHAS := Lib.hid (metV_has f k (f k))
      have HCNT := Lib.hid (show (if ((List.range k).any fun i => decide (f k = f i)) then cntTo f k else cntTo f k + 1) = cntTo f (k + 1) from rfl)
      have hgr : g < wr.heap.size := Nat.lt_of_lt_of_le hgl HB.out.size
      have hg' := fun args => HENT.out args (wr.alloc (.cells #[.int .i64 cx, .slice uA ul uc] 64))
      clear hgl
      go_wp2_with fail
      refine (keyC_any _ _ _ _ _).mono ?_
      rintro e W9 ⟨rfl, hb9⟩
      have hbx : Below wr.heap.size wr (wr.alloc (.cells #[.int .i64 cx, .slice uA ul uc] 64)) := (Below.refl _ _).alloc (Nat.le_refl _) _
      have hby : Below w.heap.size w W9 := HB.out.trans ((hbx.trans (hb9.mono hbx.size)).mono HB.out.size)
      have HM9 := Lib.hid (HM.out.below (hbx.trans (hb9.mono hbx.size)) HM.out.lt)
      have HBY := Lib.hid hby
      clear hb9 hbx hby hg' HM HB
      go_wp2_with (at_mapUpdate; refine wpList_update_mapV rfl _ _ _ 46 rfl (Maps.int_keyed Try.underlying3) Try.underlying46 rfl HM9.out (by unfold maxLen; omega) ikv_inj cx _ rfl HKEY.out (.bool true) rfl ?_; intro w8 hs8 hg8)
      rw [← HCX.out, HSUC.out, HHAS.out, HCNT.out] at hs8
      have HM8 := Lib.hid hs8
      have HB8 := Lib.hid (HBY.out.grown hg8 HBY.out.size (fun q e => by cases e; rw [HBM.out]; exact Nat.le_refl _))
      clear hs8 hg8
      go_wp2_with fail
      go_roundw
      case rel => exact ⟨k + 1, by omega, by go_num, HM8, HB8⟩
      case measure => simp [intOf]; omega
    · have hk1 : ¬ (k : Int) < (l.length : Int) := by omega
      obtain rfl : k = l.length := by omega
      have hlen : ∀ ty, (Builtin.len_ #[46] ty #[.map (some bm)]).run Try.prog wr = .ok (.int .i64 (cntTo f l.length : Int)) wr := fun ty => HM.out.len Try.underlying46 ty
      obtain ⟨cm, hcm⟩ : ∃ c, c = cntTo f l.length := ⟨_, rfl⟩
      have HQ := Lib.hid (show ((cm : Int) == (l.length : Int)) = distB f l.length by
        unfold distB
        rw [← hcm, Bool.eq_iff_iff, beq_iff_eq, decide_eq_true_eq]
        omega)
      rw [← hcm] at hlen
      clear hcm HM
      go_wp2_with fail
      go_ret
      exact ⟨ret_bool HQ.out, HB.out⟩
theorem keyR_any (cx : Int) (cy : Nat) (w : World) : Calls Try.prog 75 #[.agg #[.int .i64 cx, .int .u64 (cy : Int)]] w fun e w' => e = .returned (.int .i64 cx) ∧ Below w.heap.size w w' := by
  go_enter Try.func75, Try.ntmps75
  go_wp2_with fail
  go_ret
  exact ⟨rfl, (Below.refl _ _).alloc (Nat.le_refl _) _⟩
set_option maxRecDepth 20000 in
set_option maxHeartbeats 4000000 in
theorem distR_any (w : World) (M : Nat → Prop) (v : Value) (l : List RevD) (h : IsRevs w M v l) (hl : l.length ≤ 1000) (hW : ∀ i, i < l.length → W64 (revN l i).club) : Calls Try.prog 74 #[v, .func (.func 75) #[] #[]] w fun e w' => e = .returned (.bool (distB (fun i => (revN l i).club) l.length)) ∧ Below w.heap.size w w' := by
  have HI := Lib.hid h
  obtain ⟨A, c, rfl, -⟩ := HI.out
  have hmk : ∀ W, (Instr.makeMap 46 none).run Try.prog W = .ok (.map (some W.heap.size)) (W.alloc (.map #[] 0)) := fun W => rfl
  obtain ⟨f, hf⟩ : ∃ f : Nat → Int, f = fun i => (revN l i).club := ⟨_, rfl⟩
  have HF := Lib.hid hf
  have HENT := Lib.hid (enters_of Try.func75 (by kernel_rfl) rfl)
  rw [← hf]
  clear h hf
  obtain ⟨bm, hbm⟩ : ∃ bm, bm = w.heap.size := ⟨_, rfl⟩
  go_enter Try.func74, Try.ntmps74
  go_upto_region 2 with fail
  refine nameC fun W1 hW1 => ?_
  have hm1 : MapV ikv Try.prog 3 W1 w.heap.size 0 0 (metV f 0) := by rw [hW1.out]; exact MapV.made w
  have hb1 : Below w.heap.size w W1 := by rw [hW1.out]; exact (Below.refl _ _).alloc (Nat.le_refl _) _
  rw [← hbm] at hm1 ⊢
  have HM1 := Lib.hid hm1
  have HB1 := Lib.hid hb1
  have HBM := Lib.hid hbm
  clear hW1 hm1 hb1 hbm hmk
  go_wp2_with fail
  go_loopw [11] (fun s11 wr => ∃ k : Nat, k ≤ l.length ∧ s11 = .int .i64 (k : Int) ∧ Hid (MapV ikv Try.prog 3 wr bm k (cntTo f k) (metV f k)) ∧ Hid (Below w.heap.size w wr)) (fun s11 _ => l.length - (intOf s11).toNat)
  case atStart => exact ⟨0, Nat.zero_le _, rfl, HM1, by rw [HBM.out] at *; exact HB1⟩
  case round =>
    clear HM1 HB1
    obtain ⟨k, hk, rfl, HM, HB⟩ := hrel
    by_cases hlt : k < l.length
    · have hk1 : (k : Int) < (l.length : Int) := by omega
      have hk0 : (0 : Int) ≤ (k : Int) := by omega
      obtain ⟨A', c', e, -, -, hcells⟩ := HI.out
      obtain ⟨rfl, -, rfl⟩ := Value.slice.inj e
      obtain ⟨g, off, rfl, -, hgl, hc0, hc1⟩ := Cells.at2 hcells HB.out hlt
      obtain ⟨cx, hcx⟩ : ∃ x, x = (revN l k).club := ⟨_, rfl⟩
      obtain ⟨cy, hcy⟩ : ∃ x, x = (revN l k).num := ⟨_, rfl⟩
      have hc0' : wr.cell? ⟨g, off + k * 2, none⟩ = some (.int .i64 cx) := by rw [hcx]; exact hc0
      have hc1' : wr.cell? ⟨g, off + k * 2 + 1, none⟩ = some (.int .u64 (cy : Int)) := by rw [hcy]; exact hc1
      have HCX := Lib.hid (show f k = cx by rw [HF.out, hcx])
      have hw := hW k hlt
      rw [← hcx] at hw
      have HKEY := Lib.hid (Maps.keyOf_int_mk Try.underlying3 hw.wf)
      clear hcx hcy hw hc0 hc1 hcells e
      have HSUC := Lib.hid (metV_succ f k)
      have HHAS := Lib.hid (metV_has f k (f k))
      have HCNT := Lib.hid (show (if ((List.range k).any fun i => decide (f k = f i)) then cntTo f k else cntTo f k + 1) = cntTo f (k + 1) from rfl)
      have hgr : g < wr.heap.size := Nat.lt_of_lt_of_le hgl HB.out.size
      have hg' := fun args => HENT.out args (wr.alloc (.cells #[.int .i64 cx, .int .u64 (cy : Int)] 52))
      clear hgl
      go_wp2_with fail
      refine (keyR_any _ _ _).mono ?_
      rintro e W9 ⟨rfl, hb9⟩
      have hbx : Below wr.heap.size wr (wr.alloc (.cells #[.int .i64 cx, .int .u64 (cy : Int)] 52)) := (Below.refl _ _).alloc (Nat.le_refl _) _
      have hby : Below w.heap.size w W9 := HB.out.trans ((hbx.trans (hb9.mono hbx.size)).mono HB.out.size)
      have HM9 := Lib.hid (HM.out.below (hbx.trans (hb9.mono hbx.size)) HM.out.lt)
      have HBY := Lib.hid hby
      clear hb9 hbx hby hg' HM HB
      go_wp2_with (at_mapUpdate; refine wpList_update_mapV rfl _ _ _ 46 rfl (Maps.int_keyed Try.underlying3) Try.underlying46 rfl HM9.out (by unfold maxLen; omega) ikv_inj cx _ rfl HKEY.out (.bool true) rfl ?_; intro w8 hs8 hg8)
      rw [← HCX.out, HSUC.out, HHAS.out, HCNT.out] at hs8
      have HM8 := Lib.hid hs8
      have HB8 := Lib.hid (HBY.out.grown hg8 HBY.out.size (fun q e => by cases e; rw [HBM.out]; exact Nat.le_refl _))
      clear hs8 hg8
      go_wp2_with fail
      go_roundw
      case rel => exact ⟨k + 1, by omega, by go_num, HM8, HB8⟩
      case measure => simp [intOf]; omega
    · have hk1 : ¬ (k : Int) < (l.length : Int) := by omega
      obtain rfl : k = l.length := by omega
      have hlen : ∀ ty, (Builtin.len_ #[46] ty #[.map (some bm)]).run Try.prog wr = .ok (.int .i64 (cntTo f l.length : Int)) wr := fun ty => HM.out.len Try.underlying46 ty
      obtain ⟨cm, hcm⟩ : ∃ c, c = cntTo f l.length := ⟨_, rfl⟩
      have HQ := Lib.hid (show ((cm : Int) == (l.length : Int)) = distB f l.length by
        unfold distB
        rw [← hcm, Bool.eq_iff_iff, beq_iff_eq, decide_eq_true_eq]
        omega)
      rw [← hcm] at hlen
      clear hcm HM
      go_wp2_with fail
      go_ret
      exact ⟨ret_bool HQ.out, HB.out⟩
theorem keyO_any (cx fx : Int) (sx sy : Nat) (w : World) : Calls Try.prog 78 #[.agg #[.int .i64 cx, .int .i64 fx, .int .u64 (sx : Int), .int .u64 (sy : Int)]] w fun e w' => e = .returned (.agg #[.int .i64 cx, .int .i64 fx]) ∧ Below w.heap.size w w' := by
  go_enter Try.func78, Try.ntmps78
  go_upto_region 1 with fail
  refine nameC fun W1 hW1 => ?_
  have hb1 : Below w.heap.size w W1 := by rw [hW1.out]; exact ((Below.refl _ _).alloc (Nat.le_refl _) _).alloc (by simp) _
  have k0 : W1.heap[w.heap.size]? = some (.cells #[.int .i64 cx, .int .i64 fx, .int .u64 (sx : Int), .int .u64 (sy : Int)] 61 (0, 0)) := by rw [hW1.out]; simp only [heap_alloc_if, World.size_alloc]; rw [if_neg (by omega)]; rw [if_pos trivial]
  have k1 : W1.heap[w.heap.size + 1]? = some (.cells #[.int .i64 0, .int .i64 0] 139 (0, 0)) := by rw [hW1.out]; simp only [heap_alloc_if, World.size_alloc]; rw [if_pos trivial]
  have HB1 := Lib.hid hb1
  have K1 := Lib.hid k1
  clear hW1 hb1 k1
  have c0 := cell_of (j := 0) k0 rfl
  have c1 := cell_of (j := 1) k0 rfl
  have m0 := cell_of (j := 0) K1.out rfl
  have fm0 : W1.frozen? ⟨w.heap.size + 1, 0, none⟩ = false := by simp [World.frozen?, K1.out]
  have m1 := cell_of (j := 1) K1.out rfl
  have fm1 : W1.frozen? ⟨w.heap.size + 1, 1, none⟩ = false := by simp [World.frozen?, K1.out]
  clear k0
  go_wp2_with fail
  refine nameG (p := fun W => bodyPost Try.prog Try.f78 _ Exit.ret _ W) fun W7 hW7 => ?_
  have hk7 : W7.heap[w.heap.size + 1]? = some (.cells #[.int .i64 cx, .int .i64 fx] 139 (0, 0)) := by
    have hx := (Blk_set (Blk_set K1.out (j := 0) (.int .i64 cx)) (j := 1) (.int .i64 fx))
    rw [hW7.out, hx]; rfl
  have j0 := cell_of (j := 0) hk7 rfl
  have j1 := cell_of (j := 1) hk7 rfl
  refine bodyPost_ret (v := .agg #[.int .i64 cx, .int .i64 fx]) (by simp [results, Try.results78, go_sem, j0, j1]) rfl ?_
  refine ⟨rfl, ?_⟩
  rw [hW7.out]
  exact (HB1.out.setCell (by simp) _).setCell (by simp) _
set_option maxRecDepth 20000 in
set_option maxHeartbeats 4000000 in
theorem distO_any (w : World) (M : Nat → Prop) (v : Value) (l : List OpnD) (h : IsOpns w M v l) (hl : l.length ≤ 1000) (hW : ∀ i, i < l.length → W64 (opnN l i).club ∧ W64 (opnN l i).frm) : Calls Try.prog 77 #[v, .func (.func 78) #[] #[]] w fun e w' => e = .returned (.bool (distB (fun i => ((opnN l i).club, (opnN l i).frm)) l.length)) ∧ Below w.heap.size w w' := by
  have HI := Lib.hid h
  obtain ⟨A, c, rfl, -⟩ := HI.out
  have hmk : ∀ W, (Instr.makeMap 159 none).run Try.prog W = .ok (.map (some W.heap.size)) (W.alloc (.map #[] 0)) := fun W => rfl
  obtain ⟨f, hf⟩ : ∃ f : Nat → Int × Int, f = fun i => ((opnN l i).club, (opnN l i).frm) := ⟨_, rfl⟩
  have HF := Lib.hid hf
  have HENT := Lib.hid (enters_of Try.func78 (by kernel_rfl) rfl)
  rw [← hf]
  clear h hf
  obtain ⟨bm, hbm⟩ : ∃ bm, bm = w.heap.size := ⟨_, rfl⟩
  go_enter Try.func77, Try.ntmps77
  go_upto_region 2 with fail
  refine nameC fun W1 hW1 => ?_
  have hm1 : MapV ikv2 Try.prog 139 W1 w.heap.size 0 0 (metV f 0) := by rw [hW1.out]; exact MapV.made w
  have hb1 : Below w.heap.size w W1 := by rw [hW1.out]; exact (Below.refl _ _).alloc (Nat.le_refl _) _
  rw [← hbm] at hm1 ⊢
  have HM1 := Lib.hid hm1
  have HB1 := Lib.hid hb1
  have HBM := Lib.hid hbm
  clear hW1 hm1 hb1 hbm hmk
  go_wp2_with fail
  go_loopw [11] (fun s11 wr => ∃ k : Nat, k ≤ l.length ∧ s11 = .int .i64 (k : Int) ∧ Hid (MapV ikv2 Try.prog 139 wr bm k (cntTo f k) (metV f k)) ∧ Hid (Below w.heap.size w wr)) (fun s11 _ => l.length - (intOf s11).toNat)
  case atStart => exact ⟨0, Nat.zero_le _, rfl, HM1, by rw [HBM.out] at *; exact HB1⟩
  case round =>
    clear HM1 HB1
    obtain ⟨k, hk, rfl, HM, HB⟩ := hrel
    by_cases hlt : k < l.length
    · have hk1 : (k : Int) < (l.length : Int) := by omega
      have hk0 : (0 : Int) ≤ (k : Int) := by omega
      obtain ⟨A', c', e, -, -, hcells⟩ := HI.out
      obtain ⟨rfl, -, rfl⟩ := Value.slice.inj e
      obtain ⟨g, off, rfl, -, hgl, hc0, hc1, hc2, hc3⟩ := Cells.at4 hcells HB.out hlt
      obtain ⟨cx, hcx⟩ : ∃ x, x = (opnN l k).club := ⟨_, rfl⟩
      obtain ⟨fx, hfx⟩ : ∃ x, x = (opnN l k).frm := ⟨_, rfl⟩
      obtain ⟨sx, hsx⟩ : ∃ x, x = (opnN l k).sh.1 := ⟨_, rfl⟩
      obtain ⟨sy, hsy⟩ : ∃ x, x = (opnN l k).sh.2 := ⟨_, rfl⟩
      have hc0' : wr.cell? ⟨g, off + k * 4, none⟩ = some (.int .i64 cx) := by rw [hcx]; exact hc0
      have hc1' : wr.cell? ⟨g, off + k * 4 + 1, none⟩ = some (.int .i64 fx) := by rw [hfx]; exact hc1
      have hc2' : wr.cell? ⟨g, off + k * 4 + 1 + 1, none⟩ = some (.int .u64 (sx : Int)) := by rw [hsx]; exact hc2
      have hc3' : wr.cell? ⟨g, off + k * 4 + 1 + 1 + 1, none⟩ = some (.int .u64 (sy : Int)) := by rw [hsy]; exact hc3
      have HCX := Lib.hid (show f k = (cx, fx) by rw [HF.out, hcx, hfx])
      obtain ⟨hw1, hw2⟩ := hW k hlt
      rw [← hcx] at hw1
      rw [← hfx] at hw2
      obtain ⟨kl, hkl⟩ := key_2i (cx, fx) hw1.wf hw2.wf
      have HKEY := Lib.hid hkl
      clear hcx hfx hsx hsy hw1 hw2 hc0 hc1 hc2 hc3 hcells e hkl
      have HSUC := Lib.hid (metV_succ f k)
      have HHAS := Lib.hid (metV_has f k (f k))
      have HCNT := Lib.hid (show (if ((List.range k).any fun i => decide (f k = f i)) then cntTo f k else cntTo f k + 1) = cntTo f (k + 1) from rfl)
      have hgr : g < wr.heap.size := Nat.lt_of_lt_of_le hgl HB.out.size
      have hg' := fun args => HENT.out args (wr.alloc (.cells #[.int .i64 cx, .int .i64 fx, .int .u64 (sx : Int), .int .u64 (sy : Int)] 61))
      clear hgl
      go_wp2_with fail
      refine (keyO_any _ _ _ _ _).mono ?_
      rintro e W9 ⟨rfl, hb9⟩
      have hbx : Below wr.heap.size wr (wr.alloc (.cells #[.int .i64 cx, .int .i64 fx, .int .u64 (sx : Int), .int .u64 (sy : Int)] 61)) := (Below.refl _ _).alloc (Nat.le_refl _) _
      have hby : Below w.heap.size w W9 := HB.out.trans ((hbx.trans (hb9.mono hbx.size)).mono HB.out.size)
      have HM9 := Lib.hid (HM.out.below (hbx.trans (hb9.mono hbx.size)) HM.out.lt)
      have HBY := Lib.hid hby
      clear hb9 hbx hby hg' HM HB
      go_wp2_with (at_mapUpdate; refine wpList_update_mapV rfl _ _ _ 159 rfl Try.keyed2i Try.underlying159 rfl HM9.out (by unfold maxLen; omega) ikv2_inj (cx, fx) _ rfl HKEY.out (.bool true) rfl ?_; intro w8 hs8 hg8)
      rw [← HCX.out, HSUC.out, HHAS.out, HCNT.out] at hs8
      have HM8 := Lib.hid hs8
      have HB8 := Lib.hid (HBY.out.grown hg8 HBY.out.size (fun q e => by cases e; rw [HBM.out]; exact Nat.le_refl _))
      clear hs8 hg8
      go_wp2_with fail
      go_roundw
      case rel => exact ⟨k + 1, by omega, by go_num, HM8, HB8⟩
      case measure => simp [intOf]; omega
    · have hk1 : ¬ (k : Int) < (l.length : Int) := by omega
      obtain rfl : k = l.length := by omega
      have hlen : ∀ ty, (Builtin.len_ #[159] ty #[.map (some bm)]).run Try.prog wr = .ok (.int .i64 (cntTo f l.length : Int)) wr := fun ty => HM.out.len Try.underlying159 ty
      obtain ⟨cm, hcm⟩ : ∃ c, c = cntTo f l.length := ⟨_, rfl⟩
      have HQ := Lib.hid (show ((cm : Int) == (l.length : Int)) = distB f l.length by
        unfold distB
        rw [← hcm, Bool.eq_iff_iff, beq_iff_eq, decide_eq_true_eq]
        omega)
      rw [← hcm] at hlen
      clear hcm HM
      go_wp2_with fail
      go_ret
      exact ⟨ret_bool HQ.out, HB.out⟩
end Go.Proofs.Ytgaanndidcdbpaa
/- The conditions of a valid beacon. -/
namespace Go.Proofs.Ytgaanndidcdbpaa
open Go.RowKit Go.Shelf

theorem IsCom.below {w w' : World} {M : Nat → Prop} {v : Value} {c : ComD} (h : IsCom w M v c) (hb : Below w.heap.size w w') : IsCom w' M v c := by
  obtain ⟨u, e, h1⟩ := h; exact ⟨u, e, IsSl.below h1 hb⟩
set_option maxRecDepth 20000 in
theorem inC_any {w : World} {M : Nat → Prop} {b : BeaD} {cA : Option Addr} {cc : Nat} {kA : Option Addr} {kc : Nat} {rA : Option Addr} {rc : Nat} {oA : Option Addr} {oc bp bc bx : Nat} (h : IsBoard w M (.agg #[.slice cA b.clubs.length cc, .int .i64 b.thr, .int .u64 (b.rng : Int), .slice kA b.coms.length kc, .slice rA b.revs.length rc, .slice oA b.opns.length oc, .map (some bp), .map (some bc), .bool (doneB b)]) b) (hx : w.heap[bx]? = some (.cells #[.slice cA b.clubs.length cc, .int .i64 b.thr, .int .u64 (b.rng : Int), .slice kA b.coms.length kc, .slice rA b.revs.length rc, .slice oA b.opns.length oc, .map (some bp), .map (some bc), .bool (doneB b)] 89 (0, 0))) (M' : Nat → Prop) (u : Value) (c : ComD) (h' : IsCom w M' u c) (hc : W64 c.club) (hl : c.checks.length ≤ 140737488355328) : Calls Try.prog 71 #[u, .pointer (some ⟨bx, 0, none⟩)] w fun e w' => e = .returned (.bool (!comB b c)) ∧ Below w.heap.size w w' := by
  have HBD := Lib.hid h
  have HX := Lib.hid hx
  have HU := Lib.hid h'
  obtain ⟨ku, rfl, hk⟩ := h'
  obtain ⟨uA, uc, rfl, -⟩ := id hk
  have D := Lib.hid (fun (W : World) (hW : Below w.heap.size w W) => Lib.hid (commitFits_any W M M' _ _ b c (HBD.out.below hW) (HU.out.below hW) hc hl))
  obtain ⟨z, hz⟩ : ∃ z, z = comB b c := ⟨_, rfl⟩
  obtain ⟨cx, hcx⟩ : ∃ x, x = c.club := ⟨_, rfl⟩
  obtain ⟨ul, hul⟩ : ∃ x, x = c.checks.length := ⟨_, rfl⟩
  rw [← hz, ← hcx, ← hul] at D
  rw [← hz, ← hcx, ← hul]
  clear hz hcx hul hk hc hl
  clear h hx
  clear HBD
  obtain ⟨n, hn⟩ : ∃ n, n = b.clubs.length := ⟨_, rfl⟩
  obtain ⟨m, hm⟩ : ∃ n, n = b.coms.length := ⟨_, rfl⟩
  obtain ⟨nr, hnr⟩ : ∃ n, n = b.revs.length := ⟨_, rfl⟩
  obtain ⟨no, hno⟩ : ∃ n, n = b.opns.length := ⟨_, rfl⟩
  obtain ⟨thr, hthr⟩ : ∃ n, n = b.thr := ⟨_, rfl⟩
  obtain ⟨rng, hrng⟩ : ∃ n, n = b.rng := ⟨_, rfl⟩
  obtain ⟨dz, hdz⟩ : ∃ n, n = doneB b := ⟨_, rfl⟩
  rw [← hn, ← hm, ← hnr, ← hno, ← hthr, ← hrng, ← hdz] at D HX
  clear hn hm hnr hno hthr hrng hdz
  go_enter Try.func71, Try.ntmps71
  go_upto_region 1 with fail
  refine nameC fun W1 hW1 => ?_
  have hb1 : Below w.heap.size w W1 := by rw [hW1.out]; exact (Below.refl _ _).alloc (Nat.le_refl _) _
  have k0 : W1.heap[bx]? = some (.cells #[.slice cA n cc, .int .i64 thr, .int .u64 (rng : Int), .slice kA m kc, .slice rA nr rc, .slice oA no oc, .map (some bp), .map (some bc), .bool dz] 89 (0, 0)) := (hb1.block _ (lt_heap HX.out)).trans HX.out
  have k1 : W1.heap[w.heap.size]? = some (.cells #[.int .i64 cx, .slice uA ul uc] 64 (0, 0)) := by rw [hW1.out]; exact heap_alloc_new _ _
  have HB1 := Lib.hid hb1
  have r0 := cell_of (j := 0) k0 rfl
  have r1 := cell_of (j := 1) k0 rfl
  have r2 := cell_of (j := 2) k0 rfl
  have r3 := cell_of (j := 3) k0 rfl
  have r4 := cell_of (j := 4) k0 rfl
  have r5 := cell_of (j := 5) k0 rfl
  have r6 := cell_of (j := 6) k0 rfl
  have r7 := cell_of (j := 7) k0 rfl
  have r8 := cell_of (j := 8) k0 rfl
  have c0 := cell_of (j := 0) k1 rfl
  have c1 := cell_of (j := 1) k1 rfl
  clear hW1 hb1 k0 k1
  go_wp2_with fail
  refine (D.out _ HB1.out).out.mono ?_
  rintro e W2 ⟨rfl, hb⟩
  have HB2 := Lib.hid (HB1.out.trans (hb.mono HB1.out.size))
  clear hb
  go_wp2_with fail
  go_ret
  exact ⟨rfl, HB2.out⟩
set_option maxRecDepth 20000 in
theorem inR_any {w : World} {M : Nat → Prop} {b : BeaD} {cA : Option Addr} {cc : Nat} {kA : Option Addr} {kc : Nat} {rA : Option Addr} {rc : Nat} {oA : Option Addr} {oc bp bc bx : Nat} (h : IsBoard w M (.agg #[.slice cA b.clubs.length cc, .int .i64 b.thr, .int .u64 (b.rng : Int), .slice kA b.coms.length kc, .slice rA b.revs.length rc, .slice oA b.opns.length oc, .map (some bp), .map (some bc), .bool (doneB b)]) b) (hx : w.heap[bx]? = some (.cells #[.slice cA b.clubs.length cc, .int .i64 b.thr, .int .u64 (b.rng : Int), .slice kA b.coms.length kc, .slice rA b.revs.length rc, .slice oA b.opns.length oc, .map (some bp), .map (some bc), .bool (doneB b)] 89 (0, 0))) (r : RevD) (hc : W64 r.club) (hn : r.num < 18446744073709551616) : Calls Try.prog 80 #[.agg #[.int .i64 r.club, .int .u64 (r.num : Int)], .pointer (some ⟨bx, 0, none⟩)] w fun e w' => e = .returned (.bool (!revB b r)) ∧ Below w.heap.size w w' := by
  have HBD := Lib.hid h
  have HX := Lib.hid hx
  have D := Lib.hid (fun (W : World) (hW : Below w.heap.size w W) => Lib.hid (revealFits_any W M _ b r (HBD.out.below hW) hc hn))
  obtain ⟨z, hz⟩ : ∃ z, z = revB b r := ⟨_, rfl⟩
  obtain ⟨cx, hcx⟩ : ∃ x, x = r.club := ⟨_, rfl⟩
  obtain ⟨cy, hcy⟩ : ∃ x, x = r.num := ⟨_, rfl⟩
  rw [← hz, ← hcx, ← hcy] at D
  rw [← hz, ← hcx, ← hcy]
  clear hz hcx hcy hc hn
  clear h hx
  clear HBD
  obtain ⟨n, hn⟩ : ∃ n, n = b.clubs.length := ⟨_, rfl⟩
  obtain ⟨m, hm⟩ : ∃ n, n = b.coms.length := ⟨_, rfl⟩
  obtain ⟨nr, hnr⟩ : ∃ n, n = b.revs.length := ⟨_, rfl⟩
  obtain ⟨no, hno⟩ : ∃ n, n = b.opns.length := ⟨_, rfl⟩
  obtain ⟨thr, hthr⟩ : ∃ n, n = b.thr := ⟨_, rfl⟩
  obtain ⟨rng, hrng⟩ : ∃ n, n = b.rng := ⟨_, rfl⟩
  obtain ⟨dz, hdz⟩ : ∃ n, n = doneB b := ⟨_, rfl⟩
  rw [← hn, ← hm, ← hnr, ← hno, ← hthr, ← hrng, ← hdz] at D HX
  clear hn hm hnr hno hthr hrng hdz
  go_enter Try.func80, Try.ntmps80
  go_upto_region 1 with fail
  refine nameC fun W1 hW1 => ?_
  have hb1 : Below w.heap.size w W1 := by rw [hW1.out]; exact (Below.refl _ _).alloc (Nat.le_refl _) _
  have k0 : W1.heap[bx]? = some (.cells #[.slice cA n cc, .int .i64 thr, .int .u64 (rng : Int), .slice kA m kc, .slice rA nr rc, .slice oA no oc, .map (some bp), .map (some bc), .bool dz] 89 (0, 0)) := (hb1.block _ (lt_heap HX.out)).trans HX.out
  have k1 : W1.heap[w.heap.size]? = some (.cells #[.int .i64 cx, .int .u64 (cy : Int)] 52 (0, 0)) := by rw [hW1.out]; exact heap_alloc_new _ _
  have HB1 := Lib.hid hb1
  have r0 := cell_of (j := 0) k0 rfl
  have r1 := cell_of (j := 1) k0 rfl
  have r2 := cell_of (j := 2) k0 rfl
  have r3 := cell_of (j := 3) k0 rfl
  have r4 := cell_of (j := 4) k0 rfl
  have r5 := cell_of (j := 5) k0 rfl
  have r6 := cell_of (j := 6) k0 rfl
  have r7 := cell_of (j := 7) k0 rfl
  have r8 := cell_of (j := 8) k0 rfl
  have c0 := cell_of (j := 0) k1 rfl
  have c1 := cell_of (j := 1) k1 rfl
  clear hW1 hb1 k0 k1
  go_wp2_with fail
  refine (D.out _ HB1.out).out.mono ?_
  rintro e W2 ⟨rfl, hb⟩
  have HB2 := Lib.hid (HB1.out.trans (hb.mono HB1.out.size))
  clear hb
  go_wp2_with fail
  go_ret
  exact ⟨rfl, HB2.out⟩
set_option maxRecDepth 20000 in
theorem inO_any {w : World} {M : Nat → Prop} {b : BeaD} {cA : Option Addr} {cc : Nat} {kA : Option Addr} {kc : Nat} {rA : Option Addr} {rc : Nat} {oA : Option Addr} {oc bp bc bx : Nat} (h : IsBoard w M (.agg #[.slice cA b.clubs.length cc, .int .i64 b.thr, .int .u64 (b.rng : Int), .slice kA b.coms.length kc, .slice rA b.revs.length rc, .slice oA b.opns.length oc, .map (some bp), .map (some bc), .bool (doneB b)]) b) (hx : w.heap[bx]? = some (.cells #[.slice cA b.clubs.length cc, .int .i64 b.thr, .int .u64 (b.rng : Int), .slice kA b.coms.length kc, .slice rA b.revs.length rc, .slice oA b.opns.length oc, .map (some bp), .map (some bc), .bool (doneB b)] 89 (0, 0))) (hs : SmallB b) (o : OpnD) (hc : W64 o.club) (hf : W64 o.frm) : Calls Try.prog 82 #[.agg #[.int .i64 o.club, .int .i64 o.frm, .int .u64 (o.sh.1 : Int), .int .u64 (o.sh.2 : Int)], .pointer (some ⟨bx, 0, none⟩)] w fun e w' => e = .returned (.bool (!opnB b o)) ∧ Below w.heap.size w w' := by
  have HBD := Lib.hid h
  have HX := Lib.hid hx
  have D := Lib.hid (fun (W : World) (hW : Below w.heap.size w W) => Lib.hid (openFits_any W M _ b o (HBD.out.below hW) hs hc hf))
  obtain ⟨z, hz⟩ : ∃ z, z = opnB b o := ⟨_, rfl⟩
  obtain ⟨cx, hcx⟩ : ∃ x, x = o.club := ⟨_, rfl⟩
  obtain ⟨fx, hfx⟩ : ∃ x, x = o.frm := ⟨_, rfl⟩
  obtain ⟨sx, hsx⟩ : ∃ x, x = o.sh.1 := ⟨_, rfl⟩
  obtain ⟨sy, hsy⟩ : ∃ x, x = o.sh.2 := ⟨_, rfl⟩
  rw [← hz, ← hcx, ← hfx, ← hsx, ← hsy] at D
  rw [← hz, ← hcx, ← hfx, ← hsx, ← hsy]
  clear hz hcx hfx hsx hsy hc hf hs
  clear h hx
  clear HBD
  obtain ⟨n, hn⟩ : ∃ n, n = b.clubs.length := ⟨_, rfl⟩
  obtain ⟨m, hm⟩ : ∃ n, n = b.coms.length := ⟨_, rfl⟩
  obtain ⟨nr, hnr⟩ : ∃ n, n = b.revs.length := ⟨_, rfl⟩
  obtain ⟨no, hno⟩ : ∃ n, n = b.opns.length := ⟨_, rfl⟩
  obtain ⟨thr, hthr⟩ : ∃ n, n = b.thr := ⟨_, rfl⟩
  obtain ⟨rng, hrng⟩ : ∃ n, n = b.rng := ⟨_, rfl⟩
  obtain ⟨dz, hdz⟩ : ∃ n, n = doneB b := ⟨_, rfl⟩
  rw [← hn, ← hm, ← hnr, ← hno, ← hthr, ← hrng, ← hdz] at D HX
  clear hn hm hnr hno hthr hrng hdz
  go_enter Try.func82, Try.ntmps82
  go_upto_region 1 with fail
  refine nameC fun W1 hW1 => ?_
  have hb1 : Below w.heap.size w W1 := by rw [hW1.out]; exact (Below.refl _ _).alloc (Nat.le_refl _) _
  have k0 : W1.heap[bx]? = some (.cells #[.slice cA n cc, .int .i64 thr, .int .u64 (rng : Int), .slice kA m kc, .slice rA nr rc, .slice oA no oc, .map (some bp), .map (some bc), .bool dz] 89 (0, 0)) := (hb1.block _ (lt_heap HX.out)).trans HX.out
  have k1 : W1.heap[w.heap.size]? = some (.cells #[.int .i64 cx, .int .i64 fx, .int .u64 (sx : Int), .int .u64 (sy : Int)] 61 (0, 0)) := by rw [hW1.out]; exact heap_alloc_new _ _
  have HB1 := Lib.hid hb1
  have r0 := cell_of (j := 0) k0 rfl
  have r1 := cell_of (j := 1) k0 rfl
  have r2 := cell_of (j := 2) k0 rfl
  have r3 := cell_of (j := 3) k0 rfl
  have r4 := cell_of (j := 4) k0 rfl
  have r5 := cell_of (j := 5) k0 rfl
  have r6 := cell_of (j := 6) k0 rfl
  have r7 := cell_of (j := 7) k0 rfl
  have r8 := cell_of (j := 8) k0 rfl
  have c0 := cell_of (j := 0) k1 rfl
  have c1 := cell_of (j := 1) k1 rfl
  have c2 := cell_of (j := 2) k1 rfl
  have c3 := cell_of (j := 3) k1 rfl
  clear hW1 hb1 k0 k1
  go_wp2_with fail
  refine (D.out _ HB1.out).out.mono ?_
  rintro e W2 ⟨rfl, hb⟩
  have HB2 := Lib.hid (HB1.out.trans (hb.mono HB1.out.size))
  clear hb
  go_wp2_with fail
  go_ret
  exact ⟨rfl, HB2.out⟩
set_option maxRecDepth 20000 in
set_option maxHeartbeats 4000000 in
theorem cond0_any (w : World) (M : Nat → Prop) (v : Value) (b : BeaD) (h : IsBoard w M v b) (hs : SmallB b) : Calls Try.prog 65 #[v] w fun e w' => e = .returned (.bool (condB b 0)) ∧ Below w.heap.size w w' := by
  have HBD := Lib.hid h
  have HS := Lib.hid hs
  obtain ⟨cA, cc, kA, kc, rA, rc, oA, oc, bp, bc, rfl, i1, i2, i3, i4, i5⟩ := h.parts
  have D := Lib.hid (fun (W : World) (hW : Below w.heap.size w W) => Lib.hid (new_any W M _ b.clubs b.thr b.rng (IsSl.below i1 hW)))
  have HZ := Lib.hid (show ((newD b.clubs b.thr b.rng).2 == 0) = condB b 0 by
    unfold newD
    show _ = newB b.clubs b.thr b.rng
    cases newB b.clubs b.thr b.rng <;> rfl)
  obtain ⟨nd, hnd⟩ : ∃ z, z = newD b.clubs b.thr b.rng := ⟨_, rfl⟩
  obtain ⟨cz, hcz⟩ : ∃ z, z = condB b 0 := ⟨_, rfl⟩
  rw [← hnd] at D HZ
  rw [← hcz] at HZ ⊢
  clear h hs i1 i2 i3 i4 i5 hnd hcz HBD HS
  obtain ⟨n, hn⟩ : ∃ n, n = b.clubs.length := ⟨_, rfl⟩
  obtain ⟨m, hm⟩ : ∃ n, n = b.coms.length := ⟨_, rfl⟩
  obtain ⟨nr, hnr⟩ : ∃ n, n = b.revs.length := ⟨_, rfl⟩
  obtain ⟨no, hno⟩ : ∃ n, n = b.opns.length := ⟨_, rfl⟩
  obtain ⟨thr, hthr⟩ : ∃ n, n = b.thr := ⟨_, rfl⟩
  obtain ⟨rng, hrng⟩ : ∃ n, n = b.rng := ⟨_, rfl⟩
  obtain ⟨dz, hdz⟩ : ∃ n, n = doneB b := ⟨_, rfl⟩
  rw [← hn, ← hm, ← hnr, ← hno, ← hthr, ← hrng, ← hdz]
  (try rw [← hn] at D)
  (try rw [← hm] at D)
  (try rw [← hnr] at D)
  (try rw [← hno] at D)
  (try rw [← hthr] at D)
  (try rw [← hrng] at D)
  (try rw [← hdz] at D)
  clear hn hm hnr hno hthr hrng hdz
  go_enter Try.func65, Try.ntmps65
  go_upto_region 1 with fail
  refine nameC fun W1 hW1 => ?_
  have hb1 : Below w.heap.size w W1 := by rw [hW1.out]; exact (Below.refl _ _).alloc (Nat.le_refl _) _
  have k0 : W1.heap[w.heap.size]? = some (.cells #[.slice cA n cc, .int .i64 thr, .int .u64 (rng : Int), .slice kA m kc, .slice rA nr rc, .slice oA no oc, .map (some bp), .map (some bc), .bool dz] 89 (0, 0)) := by rw [hW1.out]; exact heap_alloc_new _ _
  have HB1 := Lib.hid hb1
  have r0 := cell_of (j := 0) k0 rfl
  have r1 := cell_of (j := 1) k0 rfl
  have r2 := cell_of (j := 2) k0 rfl
  have r3 := cell_of (j := 3) k0 rfl
  have r4 := cell_of (j := 4) k0 rfl
  have r5 := cell_of (j := 5) k0 rfl
  have r6 := cell_of (j := 6) k0 rfl
  have r7 := cell_of (j := 7) k0 rfl
  have r8 := cell_of (j := 8) k0 rfl
  clear hW1 hb1 k0
  go_wp2_with fail
  refine (D.out _ HB1.out).out.mono ?_
  rintro e W2 ⟨v2, rfl, hi, hb⟩
  have HB2 := Lib.hid (HB1.out.trans (hb.mono HB1.out.size))
  obtain ⟨a1, a2, a3, a4, a5, a6, a7, a8, rfl, -⟩ := hi.parts
  obtain ⟨en, hen⟩ : ∃ z, z = nd.2 := ⟨_, rfl⟩
  rw [← hen] at HZ ⊢
  clear hi hb hen
  go_wp2_with fail
  go_ret
  exact ⟨ret_bool HZ.out, HB2.out.alloc HB2.out.size _⟩
set_option maxRecDepth 20000 in
set_option maxHeartbeats 4000000 in
theorem cond1_any (w : World) (M : Nat → Prop) (v : Value) (b : BeaD) (h : IsBoard w M v b) (hs : SmallB b) : Calls Try.prog 66 #[v] w fun e w' => e = .returned (.bool (condB b 1)) ∧ Below w.heap.size w w' := by
  have HBD := Lib.hid h
  have HS := Lib.hid hs
  obtain ⟨cA, cc, kA, kc, rA, rc, oA, oc, bp, bc, rfl, i1, i2, i3, i4, i5⟩ := h.parts
  have D := Lib.hid (fun (W : World) (hW : Below w.heap.size w W) => Lib.hid (distC_any W M _ _ (i2.below hW) hs.co hs.coW))
  obtain ⟨cz, hcz⟩ : ∃ z, z = condB b 1 := ⟨_, rfl⟩
  have HCZ := Lib.hid hcz
  rw [← hcz]
  have HD2 := Lib.hid (show ∀ (W : World), Below w.heap.size w W → Calls Try.prog _ _ W fun e w' => e = .returned (.bool cz) ∧ Below W.heap.size W w' from fun W hW => by
    have y := (D.out W hW).out
    rw [show distB _ _ = cz from hcz.symm] at y
    exact y)
  clear h hs i1 i2 i3 i4 i5 hcz HBD HS D
  obtain ⟨n, hn⟩ : ∃ n, n = b.clubs.length := ⟨_, rfl⟩
  obtain ⟨m, hm⟩ : ∃ n, n = b.coms.length := ⟨_, rfl⟩
  obtain ⟨nr, hnr⟩ : ∃ n, n = b.revs.length := ⟨_, rfl⟩
  obtain ⟨no, hno⟩ : ∃ n, n = b.opns.length := ⟨_, rfl⟩
  obtain ⟨thr, hthr⟩ : ∃ n, n = b.thr := ⟨_, rfl⟩
  obtain ⟨rng, hrng⟩ : ∃ n, n = b.rng := ⟨_, rfl⟩
  obtain ⟨dz, hdz⟩ : ∃ n, n = doneB b := ⟨_, rfl⟩
  rw [← hn, ← hm, ← hnr, ← hno, ← hthr, ← hrng, ← hdz]
  (try rw [← hn] at HD2)
  (try rw [← hm] at HD2)
  (try rw [← hnr] at HD2)
  (try rw [← hno] at HD2)
  (try rw [← hthr] at HD2)
  (try rw [← hrng] at HD2)
  (try rw [← hdz] at HD2)
  clear hn hm hnr hno hthr hrng hdz
  go_enter Try.func66, Try.ntmps66
  go_upto_region 1 with fail
  refine nameC fun W1 hW1 => ?_
  have hb1 : Below w.heap.size w W1 := by rw [hW1.out]; exact (Below.refl _ _).alloc (Nat.le_refl _) _
  have k0 : W1.heap[w.heap.size]? = some (.cells #[.slice cA n cc, .int .i64 thr, .int .u64 (rng : Int), .slice kA m kc, .slice rA nr rc, .slice oA no oc, .map (some bp), .map (some bc), .bool dz] 89 (0, 0)) := by rw [hW1.out]; exact heap_alloc_new _ _
  have HB1 := Lib.hid hb1
  have r0 := cell_of (j := 0) k0 rfl
  have r1 := cell_of (j := 1) k0 rfl
  have r2 := cell_of (j := 2) k0 rfl
  have r3 := cell_of (j := 3) k0 rfl
  have r4 := cell_of (j := 4) k0 rfl
  have r5 := cell_of (j := 5) k0 rfl
  have r6 := cell_of (j := 6) k0 rfl
  have r7 := cell_of (j := 7) k0 rfl
  have r8 := cell_of (j := 8) k0 rfl
  clear hW1 hb1 k0
  go_wp2_with fail
  refine (HD2.out _ HB1.out).mono ?_
  rintro e W2 ⟨rfl, hb⟩
  have HB2 := Lib.hid (HB1.out.trans (hb.mono HB1.out.size))
  clear hb
  go_wp2_with fail
  go_ret
  exact ⟨rfl, HB2.out⟩
set_option maxRecDepth 20000 in
set_option maxHeartbeats 4000000 in
theorem cond4_any (w : World) (M : Nat → Prop) (v : Value) (b : BeaD) (h : IsBoard w M v b) (hs : SmallB b) : Calls Try.prog 73 #[v] w fun e w' => e = .returned (.bool (condB b 4)) ∧ Below w.heap.size w w' := by
  have HBD := Lib.hid h
  have HS := Lib.hid hs
  obtain ⟨cA, cc, kA, kc, rA, rc, oA, oc, bp, bc, rfl, i1, i2, i3, i4, i5⟩ := h.parts
  have D := Lib.hid (fun (W : World) (hW : Below w.heap.size w W) => Lib.hid (distR_any W M _ _ (IsSl.below i3 hW) hs.re (fun i hi => (hs.reW i hi).1)))
  obtain ⟨cz, hcz⟩ : ∃ z, z = condB b 4 := ⟨_, rfl⟩
  have HCZ := Lib.hid hcz
  rw [← hcz]
  have HD2 := Lib.hid (show ∀ (W : World), Below w.heap.size w W → Calls Try.prog _ _ W fun e w' => e = .returned (.bool cz) ∧ Below W.heap.size W w' from fun W hW => by
    have y := (D.out W hW).out
    rw [show distB _ _ = cz from hcz.symm] at y
    exact y)
  clear h hs i1 i2 i3 i4 i5 hcz HBD HS D
  obtain ⟨n, hn⟩ : ∃ n, n = b.clubs.length := ⟨_, rfl⟩
  obtain ⟨m, hm⟩ : ∃ n, n = b.coms.length := ⟨_, rfl⟩
  obtain ⟨nr, hnr⟩ : ∃ n, n = b.revs.length := ⟨_, rfl⟩
  obtain ⟨no, hno⟩ : ∃ n, n = b.opns.length := ⟨_, rfl⟩
  obtain ⟨thr, hthr⟩ : ∃ n, n = b.thr := ⟨_, rfl⟩
  obtain ⟨rng, hrng⟩ : ∃ n, n = b.rng := ⟨_, rfl⟩
  obtain ⟨dz, hdz⟩ : ∃ n, n = doneB b := ⟨_, rfl⟩
  rw [← hn, ← hm, ← hnr, ← hno, ← hthr, ← hrng, ← hdz]
  (try rw [← hn] at HD2)
  (try rw [← hm] at HD2)
  (try rw [← hnr] at HD2)
  (try rw [← hno] at HD2)
  (try rw [← hthr] at HD2)
  (try rw [← hrng] at HD2)
  (try rw [← hdz] at HD2)
  clear hn hm hnr hno hthr hrng hdz
  go_enter Try.func73, Try.ntmps73
  go_upto_region 1 with fail
  refine nameC fun W1 hW1 => ?_
  have hb1 : Below w.heap.size w W1 := by rw [hW1.out]; exact (Below.refl _ _).alloc (Nat.le_refl _) _
  have k0 : W1.heap[w.heap.size]? = some (.cells #[.slice cA n cc, .int .i64 thr, .int .u64 (rng : Int), .slice kA m kc, .slice rA nr rc, .slice oA no oc, .map (some bp), .map (some bc), .bool dz] 89 (0, 0)) := by rw [hW1.out]; exact heap_alloc_new _ _
  have HB1 := Lib.hid hb1
  have r0 := cell_of (j := 0) k0 rfl
  have r1 := cell_of (j := 1) k0 rfl
  have r2 := cell_of (j := 2) k0 rfl
  have r3 := cell_of (j := 3) k0 rfl
  have r4 := cell_of (j := 4) k0 rfl
  have r5 := cell_of (j := 5) k0 rfl
  have r6 := cell_of (j := 6) k0 rfl
  have r7 := cell_of (j := 7) k0 rfl
  have r8 := cell_of (j := 8) k0 rfl
  clear hW1 hb1 k0
  go_wp2_with fail
  refine (HD2.out _ HB1.out).mono ?_
  rintro e W2 ⟨rfl, hb⟩
  have HB2 := Lib.hid (HB1.out.trans (hb.mono HB1.out.size))
  clear hb
  go_wp2_with fail
  go_ret
  exact ⟨rfl, HB2.out⟩
set_option maxRecDepth 20000 in
set_option maxHeartbeats 4000000 in
theorem cond5_any (w : World) (M : Nat → Prop) (v : Value) (b : BeaD) (h : IsBoard w M v b) (hs : SmallB b) : Calls Try.prog 76 #[v] w fun e w' => e = .returned (.bool (condB b 5)) ∧ Below w.heap.size w w' := by
  have HBD := Lib.hid h
  have HS := Lib.hid hs
  obtain ⟨cA, cc, kA, kc, rA, rc, oA, oc, bp, bc, rfl, i1, i2, i3, i4, i5⟩ := h.parts
  have D := Lib.hid (fun (W : World) (hW : Below w.heap.size w W) => Lib.hid (distO_any W M _ _ (IsSl.below i4 hW) hs.op (fun i hi => ⟨(hs.opW i hi).1, (hs.opW i hi).2.1⟩)))
  obtain ⟨cz, hcz⟩ : ∃ z, z = condB b 5 := ⟨_, rfl⟩
  have HCZ := Lib.hid hcz
  rw [← hcz]
  have HD2 := Lib.hid (show ∀ (W : World), Below w.heap.size w W → Calls Try.prog _ _ W fun e w' => e = .returned (.bool cz) ∧ Below W.heap.size W w' from fun W hW => by
    have y := (D.out W hW).out
    rw [show distB _ _ = cz from hcz.symm] at y
    exact y)
  clear h hs i1 i2 i3 i4 i5 hcz HBD HS D
  obtain ⟨n, hn⟩ : ∃ n, n = b.clubs.length := ⟨_, rfl⟩
  obtain ⟨m, hm⟩ : ∃ n, n = b.coms.length := ⟨_, rfl⟩
  obtain ⟨nr, hnr⟩ : ∃ n, n = b.revs.length := ⟨_, rfl⟩
  obtain ⟨no, hno⟩ : ∃ n, n = b.opns.length := ⟨_, rfl⟩
  obtain ⟨thr, hthr⟩ : ∃ n, n = b.thr := ⟨_, rfl⟩
  obtain ⟨rng, hrng⟩ : ∃ n, n = b.rng := ⟨_, rfl⟩
  obtain ⟨dz, hdz⟩ : ∃ n, n = doneB b := ⟨_, rfl⟩
  rw [← hn, ← hm, ← hnr, ← hno, ← hthr, ← hrng, ← hdz]
  (try rw [← hn] at HD2)
  (try rw [← hm] at HD2)
  (try rw [← hnr] at HD2)
  (try rw [← hno] at HD2)
  (try rw [← hthr] at HD2)
  (try rw [← hrng] at HD2)
  (try rw [← hdz] at HD2)
  clear hn hm hnr hno hthr hrng hdz
  go_enter Try.func76, Try.ntmps76
  go_upto_region 1 with fail
  refine nameC fun W1 hW1 => ?_
  have hb1 : Below w.heap.size w W1 := by rw [hW1.out]; exact (Below.refl _ _).alloc (Nat.le_refl _) _
  have k0 : W1.heap[w.heap.size]? = some (.cells #[.slice cA n cc, .int .i64 thr, .int .u64 (rng : Int), .slice kA m kc, .slice rA nr rc, .slice oA no oc, .map (some bp), .map (some bc), .bool dz] 89 (0, 0)) := by rw [hW1.out]; exact heap_alloc_new _ _
  have HB1 := Lib.hid hb1
  have r0 := cell_of (j := 0) k0 rfl
  have r1 := cell_of (j := 1) k0 rfl
  have r2 := cell_of (j := 2) k0 rfl
  have r3 := cell_of (j := 3) k0 rfl
  have r4 := cell_of (j := 4) k0 rfl
  have r5 := cell_of (j := 5) k0 rfl
  have r6 := cell_of (j := 6) k0 rfl
  have r7 := cell_of (j := 7) k0 rfl
  have r8 := cell_of (j := 8) k0 rfl
  clear hW1 hb1 k0
  go_wp2_with fail
  refine (HD2.out _ HB1.out).mono ?_
  rintro e W2 ⟨rfl, hb⟩
  have HB2 := Lib.hid (HB1.out.trans (hb.mono HB1.out.size))
  clear hb
  go_wp2_with fail
  go_ret
  exact ⟨rfl, HB2.out⟩
set_option maxRecDepth 20000 in
set_option maxHeartbeats 4000000 in
theorem cond3_any (w : World) (M : Nat → Prop) (v : Value) (b : BeaD) (h : IsBoard w M v b) (hs : SmallB b) : Calls Try.prog 72 #[v] w fun e w' => e = .returned (.bool (condB b 3)) ∧ Below w.heap.size w w' := by
  have HBD := Lib.hid h
  have HS := Lib.hid hs
  obtain ⟨cA, cc, kA, kc, rA, rc, oA, oc, bp, bc, rfl, i1, i2, i3, i4, i5⟩ := h.parts
  have hr9 := hs.re
  have ho9 := hs.op
  obtain ⟨cz, hcz⟩ : ∃ z, z = condB b 3 := ⟨_, rfl⟩
  have HCZ := Lib.hid (show cz = (doneB b || decide (b.revs.length + b.opns.length = 0)) from hcz)
  rw [← hcz]
  clear h hs i1 i2 i3 i4 i5 hcz HBD HS
  obtain ⟨n, hn⟩ : ∃ n, n = b.clubs.length := ⟨_, rfl⟩
  obtain ⟨m, hm⟩ : ∃ n, n = b.coms.length := ⟨_, rfl⟩
  obtain ⟨nr, hnr⟩ : ∃ n, n = b.revs.length := ⟨_, rfl⟩
  obtain ⟨no, hno⟩ : ∃ n, n = b.opns.length := ⟨_, rfl⟩
  obtain ⟨thr, hthr⟩ : ∃ n, n = b.thr := ⟨_, rfl⟩
  obtain ⟨rng, hrng⟩ : ∃ n, n = b.rng := ⟨_, rfl⟩
  obtain ⟨dz, hdz⟩ : ∃ n, n = doneB b := ⟨_, rfl⟩
  rw [← hn, ← hm, ← hnr, ← hno, ← hthr, ← hrng, ← hdz]
  rw [← hnr, ← hno, ← hdz] at HCZ
  rw [← hnr] at hr9
  rw [← hno] at ho9
  clear hn hm hnr hno hthr hrng hdz
  go_enter Try.func72, Try.ntmps72
  go_upto_region 1 with fail
  refine nameC fun W1 hW1 => ?_
  have hb1 : Below w.heap.size w W1 := by rw [hW1.out]; exact (Below.refl _ _).alloc (Nat.le_refl _) _
  have k0 : W1.heap[w.heap.size]? = some (.cells #[.slice cA n cc, .int .i64 thr, .int .u64 (rng : Int), .slice kA m kc, .slice rA nr rc, .slice oA no oc, .map (some bp), .map (some bc), .bool dz] 89 (0, 0)) := by rw [hW1.out]; exact heap_alloc_new _ _
  have HB1 := Lib.hid hb1
  have r0 := cell_of (j := 0) k0 rfl
  have r1 := cell_of (j := 1) k0 rfl
  have r2 := cell_of (j := 2) k0 rfl
  have r3 := cell_of (j := 3) k0 rfl
  have r4 := cell_of (j := 4) k0 rfl
  have r5 := cell_of (j := 5) k0 rfl
  have r6 := cell_of (j := 6) k0 rfl
  have r7 := cell_of (j := 7) k0 rfl
  have r8 := cell_of (j := 8) k0 rfl
  clear hW1 hb1 k0
  cases dz
  · by_cases t : nr + no = 0
    · have t1 : ((nr : Int) + (no : Int) == 0) = true := by rw [beq_iff_eq]; omega
      have HQ := Lib.hid (show true = cz by rw [HCZ.out, decide_eq_true t]; rfl)
      clear t
      go_wp2_with fail
      go_ret
      exact ⟨ret_bool HQ.out, HB1.out⟩
    · have t1 : ((nr : Int) + (no : Int) == 0) = false := by rw [beq_eq_false_iff_ne]; omega
      have HQ := Lib.hid (show false = cz by rw [HCZ.out, decide_eq_false t]; rfl)
      clear t
      go_wp2_with fail
      go_ret
      exact ⟨ret_bool HQ.out, HB1.out⟩
  · have HQ := Lib.hid (show true = cz by rw [HCZ.out]; rfl)
    go_wp2_with fail
    go_ret
    exact ⟨ret_bool HQ.out, HB1.out⟩
set_option maxRecDepth 20000 in
set_option maxHeartbeats 4000000 in
theorem cond2_any (w : World) (M : Nat → Prop) (v : Value) (b : BeaD) (h : IsBoard w M v b) (hs : SmallB b) : Calls Try.prog 69 #[v] w fun e w' => e = .returned (.bool (condB b 2)) ∧ Below w.heap.size w w' := by
  have HBD := Lib.hid h
  have HS := Lib.hid hs
  obtain ⟨cA, cc, kA, kc, rA, rc, oA, oc, bp, bc, rfl, i1, i2, i3, i4, i5⟩ := h.parts
  obtain ⟨cz, hcz⟩ : ∃ z, z = condB b 2 := ⟨_, rfl⟩
  rw [← hcz]
  have D := Lib.hid (show ∀ (W : World), Below w.heap.size w W → W.heap[w.heap.size]? = some (.cells #[.slice cA b.clubs.length cc, .int .i64 b.thr, .int .u64 (b.rng : Int), .slice kA b.coms.length kc, .slice rA b.revs.length rc, .slice oA b.opns.length oc, .map (some bp), .map (some bc), .bool (doneB b)] 89 (0, 0)) → Calls Try.prog 70 #[.slice kA b.coms.length kc, .func (.func 71) #[] #[.pointer (some ⟨w.heap.size, 0, none⟩)]] W fun e w' => e = .returned (.bool (!cz)) ∧ Below W.heap.size W w' from fun W hW hx => by
    obtain ⟨vs, ⟨A', c', e, h1, h2, h3⟩, h4⟩ := IsComs.below i2 hW
    cases e
    have y := containsFuncC_any W M kA b.coms.length kc _ (by have := hs.co; omega) h3 71 #[.pointer (some ⟨w.heap.size, 0, none⟩)] (fun i => !comB b (comN b.coms i)) (enters_of Try.func71 (by kernel_rfl) rfl) (fun i hi wr hwr => inC_any ((h.below hW).below hwr) ((hwr.block _ (lt_heap hx)).trans hx) M (.agg #[.int .i64 (comN b.coms i).club, vs i]) (comN b.coms i) ⟨_, rfl, IsSl.below (h4 i hi) hwr⟩ (hs.coW i hi) (hs.chW i hi).2)
    rw [show (List.range _).any _ = !cz by rw [hcz]; exact (Bool.not_not _).symm] at y
    exact y)
  clear h hs i1 i2 i3 i4 i5 hcz HBD HS
  obtain ⟨n, hn⟩ : ∃ n, n = b.clubs.length := ⟨_, rfl⟩
  obtain ⟨m, hm⟩ : ∃ n, n = b.coms.length := ⟨_, rfl⟩
  obtain ⟨nr, hnr⟩ : ∃ n, n = b.revs.length := ⟨_, rfl⟩
  obtain ⟨no, hno⟩ : ∃ n, n = b.opns.length := ⟨_, rfl⟩
  obtain ⟨thr, hthr⟩ : ∃ n, n = b.thr := ⟨_, rfl⟩
  obtain ⟨rng, hrng⟩ : ∃ n, n = b.rng := ⟨_, rfl⟩
  obtain ⟨dz, hdz⟩ : ∃ n, n = doneB b := ⟨_, rfl⟩
  rw [← hn, ← hm, ← hnr, ← hno, ← hthr, ← hrng, ← hdz]
  (try rw [← hn] at D)
  (try rw [← hm] at D)
  (try rw [← hnr] at D)
  (try rw [← hno] at D)
  (try rw [← hthr] at D)
  (try rw [← hrng] at D)
  (try rw [← hdz] at D)
  clear hn hm hnr hno hthr hrng hdz
  go_enter Try.func69, Try.ntmps69
  go_upto_region 1 with fail
  refine nameC fun W1 hW1 => ?_
  have hb1 : Below w.heap.size w W1 := by rw [hW1.out]; exact (Below.refl _ _).alloc (Nat.le_refl _) _
  have k0 : W1.heap[w.heap.size]? = some (.cells #[.slice cA n cc, .int .i64 thr, .int .u64 (rng : Int), .slice kA m kc, .slice rA nr rc, .slice oA no oc, .map (some bp), .map (some bc), .bool dz] 89 (0, 0)) := by rw [hW1.out]; exact heap_alloc_new _ _
  have HB1 := Lib.hid hb1
  have D2 := Lib.hid (D.out _ HB1.out k0)
  have r0 := cell_of (j := 0) k0 rfl
  have r1 := cell_of (j := 1) k0 rfl
  have r2 := cell_of (j := 2) k0 rfl
  have r3 := cell_of (j := 3) k0 rfl
  have r4 := cell_of (j := 4) k0 rfl
  have r5 := cell_of (j := 5) k0 rfl
  have r6 := cell_of (j := 6) k0 rfl
  have r7 := cell_of (j := 7) k0 rfl
  have r8 := cell_of (j := 8) k0 rfl
  clear hW1 hb1 k0 D
  go_wp2_with fail
  refine D2.out.mono ?_
  rintro e W2 ⟨rfl, hb⟩
  have HB2 := Lib.hid (HB1.out.trans (hb.mono HB1.out.size))
  clear hb
  go_wp2_with fail
  go_ret
  exact ⟨ret_bool (by first | rfl | exact Bool.not_not _), HB2.out⟩
set_option maxRecDepth 20000 in
set_option maxHeartbeats 4000000 in
theorem cond6_any (w : World) (M : Nat → Prop) (v : Value) (b : BeaD) (h : IsBoard w M v b) (hs : SmallB b) : Calls Try.prog 79 #[v] w fun e w' => e = .returned (.bool (condB b 6)) ∧ Below w.heap.size w w' := by
  have HBD := Lib.hid h
  have HS := Lib.hid hs
  obtain ⟨cA, cc, kA, kc, rA, rc, oA, oc, bp, bc, rfl, i1, i2, i3, i4, i5⟩ := h.parts
  obtain ⟨cz, hcz⟩ : ∃ z, z = condB b 6 := ⟨_, rfl⟩
  rw [← hcz]
  have D := Lib.hid (show ∀ (W : World), Below w.heap.size w W → W.heap[w.heap.size]? = some (.cells #[.slice cA b.clubs.length cc, .int .i64 b.thr, .int .u64 (b.rng : Int), .slice kA b.coms.length kc, .slice rA b.revs.length rc, .slice oA b.opns.length oc, .map (some bp), .map (some bc), .bool (doneB b)] 89 (0, 0)) → Calls Try.prog 32 #[.slice rA b.revs.length rc, .func (.func 80) #[] #[.pointer (some ⟨w.heap.size, 0, none⟩)]] W fun e w' => e = .returned (.bool (!cz)) ∧ Below W.heap.size W w' from fun W hW hx => by
    obtain ⟨A', c', e, h1, h2, h3⟩ := IsSl.below i3 hW
    cases e
    have y := containsFuncR_any W M rA b.revs.length rc _ (by have := hs.re; omega) h3 80 #[.pointer (some ⟨w.heap.size, 0, none⟩)] (fun i => !revB b (revN b.revs i)) (enters_of Try.func80 (by kernel_rfl) rfl) (fun i hi wr hwr => inR_any ((h.below hW).below hwr) ((hwr.block _ (lt_heap hx)).trans hx) (revN b.revs i) (hs.reW i hi).1 (hs.reW i hi).2)
    rw [show (List.range _).any _ = !cz by rw [hcz]; exact (Bool.not_not _).symm] at y
    exact y)
  clear h hs i1 i2 i3 i4 i5 hcz HBD HS
  obtain ⟨n, hn⟩ : ∃ n, n = b.clubs.length := ⟨_, rfl⟩
  obtain ⟨m, hm⟩ : ∃ n, n = b.coms.length := ⟨_, rfl⟩
  obtain ⟨nr, hnr⟩ : ∃ n, n = b.revs.length := ⟨_, rfl⟩
  obtain ⟨no, hno⟩ : ∃ n, n = b.opns.length := ⟨_, rfl⟩
  obtain ⟨thr, hthr⟩ : ∃ n, n = b.thr := ⟨_, rfl⟩
  obtain ⟨rng, hrng⟩ : ∃ n, n = b.rng := ⟨_, rfl⟩
  obtain ⟨dz, hdz⟩ : ∃ n, n = doneB b := ⟨_, rfl⟩
  rw [← hn, ← hm, ← hnr, ← hno, ← hthr, ← hrng, ← hdz]
  (try rw [← hn] at D)
  (try rw [← hm] at D)
  (try rw [← hnr] at D)
  (try rw [← hno] at D)
  (try rw [← hthr] at D)
  (try rw [← hrng] at D)
  (try rw [← hdz] at D)
  clear hn hm hnr hno hthr hrng hdz
  go_enter Try.func79, Try.ntmps79
  go_upto_region 1 with fail
  refine nameC fun W1 hW1 => ?_
  have hb1 : Below w.heap.size w W1 := by rw [hW1.out]; exact (Below.refl _ _).alloc (Nat.le_refl _) _
  have k0 : W1.heap[w.heap.size]? = some (.cells #[.slice cA n cc, .int .i64 thr, .int .u64 (rng : Int), .slice kA m kc, .slice rA nr rc, .slice oA no oc, .map (some bp), .map (some bc), .bool dz] 89 (0, 0)) := by rw [hW1.out]; exact heap_alloc_new _ _
  have HB1 := Lib.hid hb1
  have D2 := Lib.hid (D.out _ HB1.out k0)
  have r0 := cell_of (j := 0) k0 rfl
  have r1 := cell_of (j := 1) k0 rfl
  have r2 := cell_of (j := 2) k0 rfl
  have r3 := cell_of (j := 3) k0 rfl
  have r4 := cell_of (j := 4) k0 rfl
  have r5 := cell_of (j := 5) k0 rfl
  have r6 := cell_of (j := 6) k0 rfl
  have r7 := cell_of (j := 7) k0 rfl
  have r8 := cell_of (j := 8) k0 rfl
  clear hW1 hb1 k0 D
  go_wp2_with fail
  refine D2.out.mono ?_
  rintro e W2 ⟨rfl, hb⟩
  have HB2 := Lib.hid (HB1.out.trans (hb.mono HB1.out.size))
  clear hb
  go_wp2_with fail
  go_ret
  exact ⟨ret_bool (by first | rfl | exact Bool.not_not _), HB2.out⟩
set_option maxRecDepth 20000 in
set_option maxHeartbeats 4000000 in
theorem cond7_any (w : World) (M : Nat → Prop) (v : Value) (b : BeaD) (h : IsBoard w M v b) (hs : SmallB b) : Calls Try.prog 81 #[v] w fun e w' => e = .returned (.bool (condB b 7)) ∧ Below w.heap.size w w' := by
  have HBD := Lib.hid h
  have HS := Lib.hid hs
  obtain ⟨cA, cc, kA, kc, rA, rc, oA, oc, bp, bc, rfl, i1, i2, i3, i4, i5⟩ := h.parts
  obtain ⟨cz, hcz⟩ : ∃ z, z = condB b 7 := ⟨_, rfl⟩
  rw [← hcz]
  have D := Lib.hid (show ∀ (W : World), Below w.heap.size w W → W.heap[w.heap.size]? = some (.cells #[.slice cA b.clubs.length cc, .int .i64 b.thr, .int .u64 (b.rng : Int), .slice kA b.coms.length kc, .slice rA b.revs.length rc, .slice oA b.opns.length oc, .map (some bp), .map (some bc), .bool (doneB b)] 89 (0, 0)) → Calls Try.prog 41 #[.slice oA b.opns.length oc, .func (.func 82) #[] #[.pointer (some ⟨w.heap.size, 0, none⟩)]] W fun e w' => e = .returned (.bool (!cz)) ∧ Below W.heap.size W w' from fun W hW hx => by
    obtain ⟨A', c', e, h1, h2, h3⟩ := IsSl.below i4 hW
    cases e
    have y := containsFuncO_any W M oA b.opns.length oc _ (by have := hs.op; omega) h3 82 #[.pointer (some ⟨w.heap.size, 0, none⟩)] (fun i => !opnB b (opnN b.opns i)) (enters_of Try.func82 (by kernel_rfl) rfl) (fun i hi wr hwr => inO_any ((h.below hW).below hwr) ((hwr.block _ (lt_heap hx)).trans hx) hs (opnN b.opns i) (hs.opW i hi).1 (hs.opW i hi).2.1)
    rw [show (List.range _).any _ = !cz by rw [hcz]; exact (Bool.not_not _).symm] at y
    exact y)
  clear h hs i1 i2 i3 i4 i5 hcz HBD HS
  obtain ⟨n, hn⟩ : ∃ n, n = b.clubs.length := ⟨_, rfl⟩
  obtain ⟨m, hm⟩ : ∃ n, n = b.coms.length := ⟨_, rfl⟩
  obtain ⟨nr, hnr⟩ : ∃ n, n = b.revs.length := ⟨_, rfl⟩
  obtain ⟨no, hno⟩ : ∃ n, n = b.opns.length := ⟨_, rfl⟩
  obtain ⟨thr, hthr⟩ : ∃ n, n = b.thr := ⟨_, rfl⟩
  obtain ⟨rng, hrng⟩ : ∃ n, n = b.rng := ⟨_, rfl⟩
  obtain ⟨dz, hdz⟩ : ∃ n, n = doneB b := ⟨_, rfl⟩
  rw [← hn, ← hm, ← hnr, ← hno, ← hthr, ← hrng, ← hdz]
  (try rw [← hn] at D)
  (try rw [← hm] at D)
  (try rw [← hnr] at D)
  (try rw [← hno] at D)
  (try rw [← hthr] at D)
  (try rw [← hrng] at D)
  (try rw [← hdz] at D)
  clear hn hm hnr hno hthr hrng hdz
  go_enter Try.func81, Try.ntmps81
  go_upto_region 1 with fail
  refine nameC fun W1 hW1 => ?_
  have hb1 : Below w.heap.size w W1 := by rw [hW1.out]; exact (Below.refl _ _).alloc (Nat.le_refl _) _
  have k0 : W1.heap[w.heap.size]? = some (.cells #[.slice cA n cc, .int .i64 thr, .int .u64 (rng : Int), .slice kA m kc, .slice rA nr rc, .slice oA no oc, .map (some bp), .map (some bc), .bool dz] 89 (0, 0)) := by rw [hW1.out]; exact heap_alloc_new _ _
  have HB1 := Lib.hid hb1
  have D2 := Lib.hid (D.out _ HB1.out k0)
  have r0 := cell_of (j := 0) k0 rfl
  have r1 := cell_of (j := 1) k0 rfl
  have r2 := cell_of (j := 2) k0 rfl
  have r3 := cell_of (j := 3) k0 rfl
  have r4 := cell_of (j := 4) k0 rfl
  have r5 := cell_of (j := 5) k0 rfl
  have r6 := cell_of (j := 6) k0 rfl
  have r7 := cell_of (j := 7) k0 rfl
  have r8 := cell_of (j := 8) k0 rfl
  clear hW1 hb1 k0 D
  go_wp2_with fail
  refine D2.out.mono ?_
  rintro e W2 ⟨rfl, hb⟩
  have HB2 := Lib.hid (HB1.out.trans (hb.mono HB1.out.size))
  clear hb
  go_wp2_with fail
  go_ret
  exact ⟨ret_bool (by first | rfl | exact Bool.not_not _), HB2.out⟩
end Go.Proofs.Ytgaanndidcdbpaa
/- conditions, Check. -/
namespace Go.Proofs.Ytgaanndidcdbpaa
open Go.RowKit Go.Shelf

theorem conds_any (w : World) : Calls Try.prog 45 #[] w fun e w' => e = .returned (.slice (some ⟨w.heap.size, 0, none⟩) 8 8) ∧ w' = w.alloc (.cells #[.func (.func 65) #[] #[], .func (.func 66) #[] #[], .func (.func 69) #[] #[], .func (.func 72) #[] #[], .func (.func 73) #[] #[], .func (.func 76) #[] #[], .func (.func 79) #[] #[], .func (.func 81) #[] #[]] 109) := by
  go_enter Try.func45, Try.ntmps45
  go_wp2_with fail
  go_ret
  exact ⟨rfl, rfl⟩
def condF (k : Nat) : FuncId := match k with
  | 0 => 65
  | 1 => 66
  | 2 => 69
  | 3 => 72
  | 4 => 73
  | 5 => 76
  | 6 => 79
  | _ => 81
theorem condF_enters (k : Nat) (hk : k < 8) : Enters Try.prog (condF k) := by
  match k, hk with
  | 0, _ => exact enters_of Try.func65 (by kernel_rfl) rfl
  | 1, _ => exact enters_of Try.func66 (by kernel_rfl) rfl
  | 2, _ => exact enters_of Try.func69 (by kernel_rfl) rfl
  | 3, _ => exact enters_of Try.func72 (by kernel_rfl) rfl
  | 4, _ => exact enters_of Try.func73 (by kernel_rfl) rfl
  | 5, _ => exact enters_of Try.func76 (by kernel_rfl) rfl
  | 6, _ => exact enters_of Try.func79 (by kernel_rfl) rfl
  | 7, _ => exact enters_of Try.func81 (by kernel_rfl) rfl
theorem condF_any (w : World) (M : Nat → Prop) (v : Value) (b : BeaD) (h : IsBoard w M v b) (hs : SmallB b) (k : Nat) (hk : k < 8) : Calls Try.prog (condF k) #[v] w fun e w' => e = .returned (.bool (condB b k)) ∧ Below w.heap.size w w' := by
  match k, hk with
  | 0, _ => exact cond0_any w M v b h hs
  | 1, _ => exact cond1_any w M v b h hs
  | 2, _ => exact cond2_any w M v b h hs
  | 3, _ => exact cond3_any w M v b h hs
  | 4, _ => exact cond4_any w M v b h hs
  | 5, _ => exact cond5_any w M v b h hs
  | 6, _ => exact cond6_any w M v b h hs
  | 7, _ => exact cond7_any w M v b h hs
theorem condF_cell {w : World} {g : Nat} (h : w.heap[g]? = some (.cells #[.func (.func 65) #[] #[], .func (.func 66) #[] #[], .func (.func 69) #[] #[], .func (.func 72) #[] #[], .func (.func 73) #[] #[], .func (.func 76) #[] #[], .func (.func 79) #[] #[], .func (.func 81) #[] #[]] 109 (0, 0))) (k : Nat) (hk : k < 8) : w.cell? ⟨g, k, none⟩ = some (.func (.func (condF k)) #[] #[]) := by
  match k, hk with
  | 0, _ => exact cell_of (j := 0) h rfl
  | 1, _ => exact cell_of (j := 1) h rfl
  | 2, _ => exact cell_of (j := 2) h rfl
  | 3, _ => exact cell_of (j := 3) h rfl
  | 4, _ => exact cell_of (j := 4) h rfl
  | 5, _ => exact cell_of (j := 5) h rfl
  | 6, _ => exact cell_of (j := 6) h rfl
  | 7, _ => exact cell_of (j := 7) h rfl
set_option maxRecDepth 20000 in
set_option maxHeartbeats 4000000 in
theorem bcheck_any (w : World) (M : Nat → Prop) (v : Value) (b : BeaD) (h : IsBea w M v b) (hs : SmallB b) : Calls Try.prog 19 #[v] w (RetE (chkD b) w) := by
  obtain ⟨cA, cc, kA, kc, rA, rc, oA, oc, rfl, i1, i2, i3, i4⟩ := h.parts
  have D1 := Lib.hid (fun (W : World) (hW : Below w.heap.size w W) => Lib.hid (open_any W M _ b (h.below hW) hs))
  have HS := Lib.hid hs
  clear h hs i1 i2 i3 i4
  obtain ⟨n, hn⟩ : ∃ n, n = b.clubs.length := ⟨_, rfl⟩
  obtain ⟨m, hm⟩ : ∃ n, n = b.coms.length := ⟨_, rfl⟩
  obtain ⟨nr, hnr⟩ : ∃ n, n = b.revs.length := ⟨_, rfl⟩
  obtain ⟨no, hno⟩ : ∃ n, n = b.opns.length := ⟨_, rfl⟩
  obtain ⟨thr, hthr⟩ : ∃ n, n = b.thr := ⟨_, rfl⟩
  obtain ⟨rng, hrng⟩ : ∃ n, n = b.rng := ⟨_, rfl⟩
  have HE := Lib.hid (And.intro hn (And.intro hm (And.intro hnr (And.intro hno (And.intro hthr hrng)))))
  rw [← hn, ← hm, ← hnr, ← hno, ← hthr, ← hrng] at D1 ⊢
  obtain ⟨z, hz⟩ : ∃ z, z = chkD b := ⟨_, rfl⟩
  have HZ := Lib.hid hz
  rw [← hz]
  clear hn hm hnr hno hthr hrng hz
  go_enter Try.func19, Try.ntmps19
  go_upto_region 1 with fail
  refine nameC fun W1 hW1 => ?_
  have hb1 : Below w.heap.size w W1 := by rw [hW1.out]; exact (Below.refl _ _).alloc (Nat.le_refl _) _
  have k0 : W1.heap[w.heap.size]? = some (.cells #[.slice cA n cc, .int .i64 thr, .int .u64 (rng : Int), .slice kA m kc, .slice rA nr rc, .slice oA no oc] 32 (0, 0)) := by rw [hW1.out]; exact heap_alloc_new _ _
  have HB1 := Lib.hid hb1
  have r0 := cell_of (j := 0) k0 rfl
  have r1 := cell_of (j := 1) k0 rfl
  have r2 := cell_of (j := 2) k0 rfl
  have r3 := cell_of (j := 3) k0 rfl
  have r4 := cell_of (j := 4) k0 rfl
  have r5 := cell_of (j := 5) k0 rfl
  clear hW1 hb1 k0
  go_wp2_with fail
  refine (D1.out _ HB1.out).out.mono ?_
  rintro e W2 ⟨v2, rfl, hbd, hb2⟩
  have HBD := Lib.hid hbd
  have HB2 := Lib.hid (HB1.out.trans (hb2.mono HB1.out.size))
  obtain ⟨dA, dc, lA, lc, sA, sc, pA, pc, bp, bc, rfl, -⟩ := hbd.parts
  obtain ⟨dz, hdz⟩ : ∃ z, z = doneB b := ⟨_, rfl⟩
  rw [← HE.out.1, ← HE.out.2.1, ← HE.out.2.2.1, ← HE.out.2.2.2.1, ← HE.out.2.2.2.2.1, ← HE.out.2.2.2.2.2, ← hdz] at HBD ⊢
  clear hbd hb2 D1 hdz r0 r1 r2 r3 r4 r5
  go_upto_region 2 with fail
  refine nameC fun W3 hW3 => ?_
  have hb3 : Below W2.heap.size W2 W3 := by rw [hW3.out]; exact (Below.refl _ _).alloc (Nat.le_refl _) _
  have k3 : W3.heap[W2.heap.size]? = some (.cells #[.slice dA n dc, .int .i64 thr, .int .u64 (rng : Int), .slice lA m lc, .slice sA nr sc, .slice pA no pc, .map (some bp), .map (some bc), .bool dz] 89 (0, 0)) := by rw [hW3.out]; exact heap_alloc_new _ _
  obtain ⟨g3, hg3⟩ : ∃ g, g = W2.heap.size := ⟨_, rfl⟩
  rw [← hg3] at k3 ⊢
  have K3 := Lib.hid k3
  have HB3 := Lib.hid (HB2.out.trans (hb3.mono HB2.out.size))
  have HBD3 := Lib.hid (HBD.out.below hb3)
  clear hW3 hb3 k3 hg3 HBD
  go_wp2_with fail
  refine (conds_any _).mono ?_
  rintro e W4 ⟨rfl, hw4⟩
  have hb4 : Below W3.heap.size W3 W4 := by rw [hw4]; exact (Below.refl _ _).alloc (Nat.le_refl _) _
  have k4 : W4.heap[W3.heap.size]? = some (.cells #[.func (.func 65) #[] #[], .func (.func 66) #[] #[], .func (.func 69) #[] #[], .func (.func 72) #[] #[], .func (.func 73) #[] #[], .func (.func 76) #[] #[], .func (.func 79) #[] #[], .func (.func 81) #[] #[]] 109 (0, 0)) := by rw [hw4]; exact heap_alloc_new _ _
  obtain ⟨g4, hg4⟩ : ∃ g, g = W3.heap.size := ⟨_, rfl⟩
  rw [← hg4] at k4 ⊢
  have K4 := Lib.hid k4
  have K3' := Lib.hid ((hb4.block _ (lt_heap K3.out)).trans K3.out)
  have HB4 := Lib.hid (HB3.out.trans (hb4.mono HB3.out.size))
  have HBD4 := Lib.hid (HBD3.out.below hb4)
  clear hw4 hb4 k4 hg4 K3 HBD3
  go_wp2_with fail
  go_loopw [10] (fun s10 wr => ∃ k : Nat, k ≤ 8 ∧ s10 = .int .i64 (k : Int) ∧ Hid (chkTo b k) ∧ Hid (Below W4.heap.size W4 wr)) (fun s10 _ => 8 - (intOf s10).toNat)
  case atStart => exact ⟨0, by omega, rfl, Lib.hid chkTo_zero, Lib.hid (by repeat (first | with_reducible exact Below.refl _ _ | (with_reducible refine Below.drew ?_)))⟩
  case round =>
    obtain ⟨k, hk, rfl, HT, HB⟩ := hrel
    have HBF := Lib.hid (HB4.out.trans (HB.out.mono HB4.out.size))
    by_cases hlt : k < 8
    · have hk1 : (k : Int) < 8 := by omega
      have hk0 : (0 : Int) ≤ (k : Int) := by omega
      have hkc := (HB.out.cell (p := ⟨g4, k, none⟩) (lt_heap K4.out)).trans (condF_cell K4.out k hlt)
      have k3 := (HB.out.block _ (lt_heap K3'.out)).trans K3'.out
      obtain ⟨cz, hcz⟩ : ∃ z, z = condB b k := ⟨_, rfl⟩
      have HCZ := Lib.hid hcz
      have CK := Lib.hid (fun (W : World) (hW : Below wr.heap.size wr W) => condF_any W M _ b (HBD4.out.below (HB.out.trans (hW.mono HB.out.size))) HS.out k hlt)
      have HEN := Lib.hid (condF_enters k hlt)
      rw [← hcz] at CK
      obtain ⟨fk, hfk⟩ : ∃ f, f = condF k := ⟨_, rfl⟩
      rw [← hfk] at hkc CK HEN
      have hg' := fun args => HEN.out args (wr.alloc (.cells #[.func (.func fk) #[] #[]] 109))
      have HLT := Lib.hid hlt
      have hgl : g3 < wr.heap.size := lt_heap k3
      have r0 := cell_of (j := 0) k3 rfl
      have r1 := cell_of (j := 1) k3 rfl
      have r2 := cell_of (j := 2) k3 rfl
      have r3 := cell_of (j := 3) k3 rfl
      have r4 := cell_of (j := 4) k3 rfl
      have r5 := cell_of (j := 5) k3 rfl
      have r6 := cell_of (j := 6) k3 rfl
      have r7 := cell_of (j := 7) k3 rfl
      have r8 := cell_of (j := 8) k3 rfl
      clear hcz hfk k3 hlt
      go_wp2_with fail
      refine (CK.out _ ((Below.refl _ _).alloc (Nat.le_refl _) _)).mono ?_
      rintro e W9 ⟨rfl, hb9⟩
      have HB9 := Lib.hid (HB.out.trans ((((Below.refl _ wr).alloc (Nat.le_refl _) (.cells #[.func (.func fk) #[] #[]] 109)).trans (hb9.mono (by simp))).mono HB.out.size))
      clear hb9 hg' hkc r0 r1 r2 r3 r4 r5 r6 r7 r8
      cases cz
      · have HQ := Lib.hid (show z = 240 by rw [HZ.out]; exact chk_no HLT.out HCZ.out.symm)
        go_wp2_with fail
        go_ret
        exact ⟨ret_int HQ.out.symm, HB4.out.trans (HB9.out.mono HB4.out.size)⟩
      · have HT2 := Lib.hid (chkTo_succ HT.out HCZ.out.symm)
        have hk8 : k < 8 := HLT.out
        go_wp2_with fail
        go_roundw
        case rel => exact ⟨k + 1, by omega, by go_num, HT2, Lib.hid (by repeat (first | with_reducible exact HB9.out | (with_reducible refine Below.drew ?_)))⟩
        case measure => simp [intOf]; omega
    · have hk1 : ¬ (k : Int) < 8 := by omega
      obtain rfl : k = 8 := by omega
      have HQ := Lib.hid (show z = 0 by rw [HZ.out]; exact chk_yes HT.out)
      go_wp2_with fail
      go_ret
      exact ⟨ret_int HQ.out.symm, HBF.out⟩
end Go.Proofs.Ytgaanndidcdbpaa
