/- The reference's best, Largest. -/
import Derived.Test.YtolappaekjdcgaaK4
import Derived.Test.YtolappaekjdcgaaA6
namespace Go.Proofs.Ytolappaekjdcgaa
open Go.RowKit Go.Deep
theorem rowIs_ext {w w' : World} {b n : Nat} {t : TypeId} {f : Nat → Value} (h : w.rowIs b t n f) (h' : w'.rowIs b t n f) : w'.heap[b]? = w.heap[b]? := by
  obtain ⟨c, h1, h2, h3⟩ := h
  obtain ⟨c', h1', h2', h3'⟩ := h'
  have : c = c' := by
    refine Array.ext (by rw [h2, h2']) fun i hi hi' => ?_
    have e1 := h3 i (by omega)
    have e2 := h3' i (by omega)
    rw [Array.getElem?_eq_getElem hi] at e1
    rw [Array.getElem?_eq_getElem hi'] at e2
    exact Option.some.inj (e1.trans e2.symm)
  rw [h1, h1', this]
/-- only block b was written, and it holds what it held -/
theorem below_back {w w' : World} {b n : Nat} {t : TypeId} {f : Nat → Value} (h0 : Below 0 w w') (hk : ∀ k, k < w.heap.size → k ≠ b → w'.heap[k]? = w.heap[k]?) (h : w.rowIs b t n f) (h' : w'.rowIs b t n f) : Below w.heap.size w w' :=
  ⟨h0.os, h0.tape, h0.output, h0.size, fun k hkk => by
    by_cases e : k = b
    · rw [e]; exact rowIs_ext h h'
    · exact hk k hkk e⟩
def UW (w : World) (bu R : Nat) (U : Nat → Bool) : Prop := w.rowIs bu 4 R (fun i => .bool (U i))
theorem UW.below {w w' : World} {bu R : Nat} {U : Nat → Bool} (h : UW w bu R U) (hb : Below w.heap.size w w') : UW w' bu R U := World.rowIs.of_block h (hb.block _ (World.rowIs.lt h))
theorem UW.add {w : World} {bu R r : Nat} {U : Nat → Bool} (h : UW w bu R U) : UW (w.setCell ⟨bu, r, none⟩ (.bool true)) bu R (addS U r) :=
  (World.rowIs.set h r _).congr fun i _ => by unfold addS; split <;> rfl
theorem UW.sub {w : World} {bu R r : Nat} {U : Nat → Bool} (h : UW w bu R (addS U r)) (hr : U r = false) : UW (w.setCell ⟨bu, r, none⟩ (.bool false)) bu R U :=
  (World.rowIs.set h r _).congr fun i _ => by
    by_cases e : i = r
    · rw [if_pos e, e, hr]
    · rw [if_neg e]; unfold addS; rw [if_neg e]
set_option maxHeartbeats 4000000 in
theorem best_any (g : GrD) (L R : Nat) (hg : GOk g L R) : ∀ (f v : Nat) (w : World) (M : Nat → Prop) (gv : Value) (bu : Nat) (U : Nat → Bool), v + f = L → IsGraph w M gv g → (∀ b, M b → b ≠ bu) → UW w bu R U →
    Calls Try.prog 29 #[gv, .int .i64 (v : Int), .slice (some ⟨bu, 0, none⟩) R R] w (IntW (bestD g L f U : Int) w) := by
  intro f
  induction f with
  | zero =>
    intro v w M gv bu U hv h _ _
    obtain rfl : v = L := by omega
    obtain ⟨v2, rfl, -⟩ := h
    rw [hg.left]
    have ht : ((v : Int) == (v : Int)) = true := by simp
    clear hg
    go_enter Try.func29, Try.ntmps29
    go_wp2_with fail
    go_ret
    exact ⟨rfl, (Below.refl _ _).alloc (Nat.le_refl _) _⟩
  | succ f ih =>
    intro v w M gv bu U hv h hMb hu
    obtain ⟨v2, rfl, h2⟩ := h
    have HE := Lib.hid h2
    have HU := Lib.hid hu
    have HMB := Lib.hid hMb
    have HG := Lib.hid hg
    have hL512 := hg.l512
    have hR512 := hg.r512
    have hlen4 := hg.len
    obtain ⟨A, c, rfl, hl1, hl2, -⟩ := h2
    rw [hg.left]
    have hvL : v < L := by omega
    have hne : ((v : Int) == (L : Int)) = false := by rw [beq_eq_false_iff_ne]; omega
    have hne2 : ¬ (v : Int) = (L : Int) := by omega
    have hbl0 := World.rowIs.lt hu
    have HIH := Lib.hid ih
    have HALL := Lib.hid (bestTo_all g L f U)
    have hvf : v + 1 + f = L := by omega
    have hvm : ((L - (f + 1) : Nat) : Int) = (v : Int) := by omega
    have HVM := Lib.hid hvm
    clear ih hg hMb hu hv hvm
    go_enter Try.func29, Try.ntmps29
    go_wp2_with fail
    refine nameW fun W1 hW1 => ?_
    have hB1 : Below w.heap.size w W1 := by rw [hW1.out]; exact (Below.refl _ _).alloc (Nat.le_refl _) _
    have hk1 : W1.heap[w.heap.size]? = some (.cells #[.int .i64 (L : Int), .int .i64 g.right, .slice A g.edges.length c] 24 (0, 0)) := by rw [hW1.out, heap_alloc_if, if_pos rfl]
    have CB := Lib.hid (HIH.out (v + 1) W1 M (.agg #[.int .i64 (L : Int), .int .i64 g.right, .slice A g.edges.length c]) bu U hvf ⟨_, by rw [HG.out.left], IsSl.below HE.out hB1⟩ HMB.out (HU.out.below hB1))
    have HB1 := Lib.hid hB1
    have HX1 := Lib.hid hk1
    clear hW1 hB1 hk1
    have hv1 : ((v + 1 : Nat) : Int) = (v : Int) + 1 := by omega
    rw [hv1] at CB
    refine CB.out.mono ?_
    rintro e w2 ⟨rfl, hb2⟩
    have HB2 := Lib.hid (HB1.out.trans (hb2.mono HB1.out.size))
    have HX2 := Lib.hid ((hb2.block _ (lt_heap HX1.out)).trans HX1.out)
    have hble := bestD_le g L f U
    obtain ⟨n0, hn0⟩ : ∃ n0, n0 = bestD g L f U := ⟨_, rfl⟩
    rw [← hn0] at hble ⊢
    have HN0 := Lib.hid hn0
    clear hb2 CB HB1 HX1 hv1 hn0
    go_wp2_with fail
    go_loopw [7, 8] (fun q7 q8 wr => ∃ k n : Nat, k ≤ g.edges.length ∧ n ≤ f + 1 ∧ q8 = .int .i64 (k : Int) ∧ q7 = .int .i64 (n : Int) ∧ Hid (n = bestTo g L f U k) ∧ Hid (Below w.heap.size w wr) ∧ Hid (wr.heap[w.heap.size]? = some (.cells #[.int .i64 (L : Int), .int .i64 g.right, .slice A g.edges.length c] 24 (0, 0)))) (fun _ q _ => g.edges.length - (intOf q).toNat)
    case atStart => exact ⟨0, n0, Nat.zero_le _, by omega, rfl, rfl, HN0, HB2, HX2⟩
    case round =>
      obtain ⟨k, n, hk, hn, rfl, rfl, HNK, HB, HX⟩ := hrel
      obtain ⟨c0, c1, c2⟩ := graph_box HX.out
      have hbl := lt_heap HX.out
      have hf512 : f ≤ 512 := by omega
      by_cases hlt : k < g.edges.length
      · have hlt2 : (k : Int) < (g.edges.length : Int) := by omega
        have hk0 : (0 : Int) ≤ (k : Int) := by omega
        obtain ⟨bb, off, rfl, hb, e0, e1⟩ := HE.out.at_ HB.out hlt
        rw [← nthE_get hlt] at e0 e1
        have HSn := Lib.hid (bestTo_succ (U := U) (f := f) (L := L) hlt)
        rw [← HNK.out] at HSn
        obtain ⟨x, r, hxr, hx1, hrR, -⟩ := edge_nat HG.out (List.getElem_mem hlt)
        rw [← nthE_get hlt] at hxr
        rw [hxr] at e0 e1 HSn
        dsimp only at e0 e1
        have HF : Hid (bestF g L f U n ((x : Int), (r : Int)) = if ((x : Int) == (v : Int)) && !U r then max n (1 + bestD g L f (addS U r)) else n) := Lib.hid (by unfold bestF; dsimp only; rw [HVM.out]; rfl)
        clear hxr
        have HUr := Lib.hid (HU.out.below HB.out)
        have hcu := World.rowIs.cell HUr.out hrR
        have hrI : (r : Int) < (R : Int) := by omega
        have hr0 : (0 : Int) ≤ (r : Int) := by omega
        have hbuw : bu < wr.heap.size := World.rowIs.lt HUr.out
        by_cases hxv : x = v
        · have ht : ((x : Int) == (v : Int)) = true := by simp [hxv]
          cases hus : U r
          · rw [hus] at hcu
            have HUs := Lib.hid hus
            have HE2 : Hid (bestTo g L f U (k + 1) = max n (1 + bestD g L f (addS U r))) := Lib.hid (by rw [HSn.out, HF.out, ht, HUs.out]; rfl)
            clear hus hxv
            have hfz := World.rowIs.frozen HUr.out r
            go_upto_region 10 with fail
            refine nameC fun W9 hW9 => ?_
            have h0 : Below 0 wr W9 := by rw [hW9.out]; exact ((Below.refl 0 wr).setCell (Nat.zero_le _) _).alloc (Nat.zero_le _) _
            have hkk : ∀ j, j < wr.heap.size → j ≠ bu → W9.heap[j]? = wr.heap[j]? := fun j hj hne => by rw [hW9.out]; exact (Below.heap_alloc _ _ _ (by simpa [World.setCell] using hj)).trans (Below.heap_setCell _ _ _ _ hne)
            have hu9 : UW W9 bu R (addS U r) := by rw [hW9.out]; exact World.rowIs.alloc (UW.add HUr.out) _
            have hx9 : W9.heap[wr.heap.size]? = some (.cells #[.int .i64 (x : Int), .int .i64 (r : Int)] 46 (0, 0)) := by rw [hW9.out, heap_alloc_if, if_pos (by simp [World.setCell])]
            have hX9 := (hkk _ hbl (by omega)).trans HX.out
            have CB := Lib.hid (HIH.out (v + 1) W9 M (.agg #[.int .i64 (L : Int), .int .i64 g.right, .slice (some ⟨bb, off, none⟩) g.edges.length c]) bu (addS U r) hvf ⟨_, by rw [HG.out.left], IsSl.keep (IsSl.below HE.out HB.out) fun p hp hpl => World.cell?_of_block (w := wr) (hkk p.block hpl (HMB.out _ hp))⟩ HMB.out hu9)
            have hv1 : ((v + 1 : Nat) : Int) = (v : Int) + 1 := by omega
            rw [hv1] at CB
            have hbd := bestD_le g L f (addS U r)
            obtain ⟨n1, hn1⟩ : ∃ n1, n1 = bestD g L f (addS U r) := ⟨_, rfl⟩
            rw [← hn1] at CB hbd HE2
            have H0 := Lib.hid h0
            have HKK := Lib.hid hkk
            have HU9 := Lib.hid hu9
            have HX9 := Lib.hid hx9
            obtain ⟨c0, c1, c2⟩ := graph_box hX9
            have HX99 := Lib.hid hX9
            have hs9 := lt_heap hx9
            clear hn1 hv1 hW9 h0 hkk hu9 hx9 hX9 e0 e1 hcu hfz hb
            go_wp2_with fail
            refine CB.out.mono ?_
            rintro e w10 ⟨rfl, hb10⟩
            have HB10 := Lib.hid hb10
            have hx10 : w10.cell? ⟨wr.heap.size, 1, none⟩ = some (.int .i64 (r : Int)) := cell_of ((hb10.block _ hs9).trans HX9.out) rfl
            have HU10 := Lib.hid (HU9.out.below hb10)
            have hcu := World.rowIs.cell HU10.out hrR
            have hfz := World.rowIs.frozen HU10.out r
            rw [addS_same] at hcu
            have hn5 : f ≤ 512 := hf512
            clear hb10 CB c0 c1 c2
            go_wp2_with fail
            have hBR : Below wr.heap.size wr (w10.setCell ⟨bu, r, none⟩ (.bool false)) := below_back ((H0.out.trans (HB10.out.mono (Nat.zero_le _))).setCell (Nat.zero_le _) _) (fun j hj hne => (Below.heap_setCell _ _ _ _ hne).trans ((HB10.out.block j (Nat.lt_of_lt_of_le hj H0.out.size)).trans (HKK.out j hj hne))) HUr.out (UW.sub HU10.out HUs.out)
            have hmx : (if (n : Int) < 1 + (n1 : Int) then 1 + (n1 : Int) else (n : Int)) = ((max n (1 + n1) : Nat) : Int) := by
              rw [Nat.max_def]; split <;> split <;> omega
            have hml : max n (1 + n1) ≤ f + 1 := Nat.max_le.2 ⟨hn, by omega⟩
            exact ⟨⟨k + 1, max n (1 + n1), by omega, hml, by go_num, by rw [hmx], HE2.out.symm, HB.out.trans (hBR.mono HB.out.size), (hBR.block _ hbl).trans HX.out⟩, by simp [intOf]; omega⟩
          · rw [hus] at hcu
            have HE2 : Hid (n = bestTo g L f U (k + 1)) := Lib.hid (by rw [HSn.out, HF.out, hus]; simp)
            clear hus hxv
            go_wp2_with fail
            go_roundw
            case rel => exact ⟨k + 1, n, by omega, hn, by go_num, rfl, HE2, Lib.hid (HB.out.alloc HB.out.size _), Lib.hid (heap_alloc_keep HX.out _)⟩
            case measure => simp [intOf]; omega
        · have ht : ((x : Int) == (v : Int)) = false := by rw [beq_eq_false_iff_ne]; omega
          have HE2 : Hid (n = bestTo g L f U (k + 1)) := Lib.hid (by rw [HSn.out, HF.out, ht]; rfl)
          clear hxv
          go_wp2_with fail
          go_roundw
          case rel => exact ⟨k + 1, n, by omega, hn, by go_num, rfl, HE2, Lib.hid (HB.out.alloc HB.out.size _), Lib.hid (heap_alloc_keep HX.out _)⟩
          case measure => simp [intOf]; omega
      · have hnl : ¬ (k : Int) < (g.edges.length : Int) := by omega
        obtain rfl : g.edges.length = k := by omega
        have HZ : Hid (n = bestD g L (f + 1) U) := Lib.hid (by rw [HNK.out, HALL.out])
        go_wp2_with fail
        go_ret
        exact ⟨ret_int (by rw [HZ.out]), HB.out⟩
theorem makeBools (n : Nat) (hn : n ≤ 4096) : ∃ cs, (∀ w, (Instr.makeSlice 57 (.int .i64 n) (.int .i64 n)).run Try.prog w = .ok (.slice (some ⟨w.heap.size, 0, none⟩) n n) (w.alloc (.cells cs 4))) ∧ ∀ w : World, UW (w.alloc (.cells cs 4)) w.heap.size n (fun _ => false) :=
  ⟨madeCells #[.bool false] n, fun w => run_make_row' (P := Try.prog) 57 4 (.bool false) 1 Try.underlying57 (by kernel_rfl) rfl .i64 .i64 n (by omega) (by omega) w, fun w => World.rowIs_made w (.bool false) n 4⟩
theorem UW.drew {w : World} {bu R : Nat} {U : Nat → Bool} (h : UW w bu R U) : UW w.drew bu R U := h
theorem UW.new {w : World} {b R : Nat} {cs : Array Value} (h : ∀ w : World, UW (w.alloc (.cells cs 4)) w.heap.size R (fun _ => false)) (hb : b = w.heap.size) : UW (w.alloc (.cells cs 4)) b R (fun _ => false) := hb ▸ h w
set_option maxHeartbeats 2000000 in
theorem largest_any (w : World) (M : Nat → Prop) (v : Value) (g : GrD) (h : IsGraph w M v g) {L R : Nat} (hg : GOk g L R) : Calls Try.prog 18 #[v] w (IntW (bestD g L L (fun _ => false) : Int) w) := by
  have HG := Lib.hid hg
  obtain ⟨v2, rfl, h2⟩ := h
  have hR512 := hg.r512
  have HE := Lib.hid h2
  clear h2
  obtain ⟨cs, hmk, huw⟩ := makeBools R (by omega)
  have HUW := Lib.hid huw
  rw [hg.right]
  obtain ⟨z, hz⟩ : ∃ z, z = bestD g L L (fun _ => false) := ⟨_, rfl⟩
  rw [← hz]
  have HZ := Lib.hid hz
  clear hg huw hz
  go_enter Try.func18, Try.ntmps18
  go_wp2_with fail
  refine nameC fun W1 hW1 => ?_
  have HB1 : Hid (Below w.heap.size w W1) := by rw [hW1.out]; exact (Below.refl _ _).alloc (Nat.le_refl _) _
  have hk1 : W1.heap[w.heap.size]? = some (.cells #[.int .i64 g.left, .int .i64 (R : Int), v2] 24 (0, 0)) := by rw [hW1.out, heap_alloc_if, if_pos rfl]
  have hlt := lt_heap hk1
  obtain ⟨c0, c1, c2⟩ := graph_box hk1
  have CB := fun W (bu : Nat) (hb : Below w.heap.size w W) (hbu : w.heap.size ≤ bu) (hu : UW W bu R (fun _ => false)) => Lib.hid (best_any g L R HG.out L 0 W (fun b => b < w.heap.size) (.agg #[.int .i64 g.left, .int .i64 (R : Int), v2]) bu (fun _ => false) (by omega) ⟨v2, by rw [HG.out.right], IsSl.mono (IsSl.below (IsSl.mono HE.out (M' := fun b => M b ∧ b < w.heap.size) (fun b hb hM => ⟨hM, hb⟩) (by decide)) hb) (fun b _ h => h.2) (by decide)⟩ (fun b hb => by omega) hu)
  clear hW1 hk1
  rw [← HZ.out] at CB
  go_region_held3 (fun w' => w'.cell? ⟨w.heap.size, 0, none⟩ = some (.int .i64 g.left) ∧ w'.cell? ⟨w.heap.size, 1, none⟩ = some (.int .i64 (R : Int)) ∧ w'.cell? ⟨w.heap.size, 2, none⟩ = some v2) (first | with_reducible exact ⟨c0, c1, c2⟩ | with_reducible exact ⟨s0, s1, s2⟩ | go_keep) ((go_at_call 29; refine (CB _ _ ?_ ?_ ?_).out.mono ?_; (focus (repeat (first | with_reducible exact HB1.out | (with_reducible refine Below.drew ?_) | (with_reducible refine Below.alloc ?_ ?_ _) | exact HB1.out.size | (simp; exact HB1.out.size)))); (focus (first | exact HB1.out.size | (simp; exact HB1.out.size))); (focus ((repeat (first | (with_reducible refine UW.drew ?_) | ((refine UW.new HUW.out ?_); (focus (first | rfl | (simp; done)))))); done)); rintro e w9 ⟨rfl, hb9⟩; have HB9 : Hid (Below W1.heap.size W1 w9) := Below.trans (by repeat (first | with_reducible exact Below.refl _ _ | (with_reducible refine Below.drew ?_) | (with_reducible refine Below.alloc ?_ (Nat.le_refl _) _))) (hb9.mono (by first | exact Nat.le_refl _ | (simp; done))); obtain ⟨s0, s1, s2⟩ : w9.cell? ⟨w.heap.size, 0, none⟩ = some (.int .i64 g.left) ∧ w9.cell? ⟨w.heap.size, 1, none⟩ = some (.int .i64 (R : Int)) ∧ w9.cell? ⟨w.heap.size, 2, none⟩ = some v2 := ⟨(HB9.out.cell (p := ⟨w.heap.size, 0, none⟩) hlt).trans c0, (HB9.out.cell (p := ⟨w.heap.size, 1, none⟩) hlt).trans c1, (HB9.out.cell (p := ⟨w.heap.size, 2, none⟩) hlt).trans c2⟩; clear hb9))
  all_goals
    go_wp2_with fail
    go_ret
    exact ⟨rfl, HB1.out.trans (Below.mono (by repeat (first | with_reducible exact HB9.out | (with_reducible refine Below.drew ?_))) HB1.out.size)⟩
end Go.Proofs.Ytolappaekjdcgaa
