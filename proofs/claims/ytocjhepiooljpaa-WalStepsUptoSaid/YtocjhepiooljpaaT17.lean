import Derived.Test.YtocjhepiooljpaaT16
import Derived.Deep.DeepCutAuto
import Derived.StillTailTactics
namespace Go.Proofs.Ytocjhepiooljpaa
open Go.RowKit Go.Shelf Go.Deep

theorem have_hid {p q : Prop} (h : p) (k : Hid p → q) : q := k h
theorem own_set_ne {w : World} {base e sz n g t : Nat} {v : Value} {xs : List Value} {cs : Array Value} {z : Nat × Nat} (h : w.ownsRow base e sz v n xs) (hg : w.heap[g]? = some (.cells cs t z)) (ht : t ≠ e) (j : Nat) (u : Value) : (w.setCell ⟨g, j, none⟩ u).ownsRow base e sz v n xs := by
  obtain ⟨h1, h2⟩ := h
  refine ⟨h1, ?_⟩
  rcases h2 with h2 | ⟨r, cap, cur, hv, hb, hh, rest⟩
  · exact .inl h2
  · refine .inr ⟨r, cap, cur, hv, hb, ?_, rest⟩
    rw [Below.heap_setCell _ _ _ _ (fun e' => by
      have e'' : r = g := e'
      rw [e'', hg] at hh; injection hh with hh; injection hh with _ h4; exact ht h4)]
    exact hh
theorem cut_set {w1 w6 : World} {g n c6 : Nat} {A6 : Option Addr} {vals : List Value} {l : Int} (hg : w1.heap.size ≤ g) (K : w6.heap[g]? = some (.cells #[.slice none 0 0, .slice none 0 0, .int .i64 0, .bool false] 25 (0, 0)))
    (HO : w6.ownsRow w1.heap.size 35 1 (.slice A6 n c6) n vals) (HB : Below w1.heap.size w1 w6) :
    ((((w6.setCell ⟨g, 0, none⟩ (.slice A6 n c6)).setCell ⟨g, 1, none⟩ (.slice none 0 0)).setCell ⟨g, 2, none⟩ (.int .i64 l)).setCell ⟨g, 3, none⟩ (.bool false)).heap[g]? = some (.cells #[.slice A6 n c6, .slice none 0 0, .int .i64 l, .bool false] 25 (0, 0)) ∧
    ((((w6.setCell ⟨g, 0, none⟩ (.slice A6 n c6)).setCell ⟨g, 1, none⟩ (.slice none 0 0)).setCell ⟨g, 2, none⟩ (.int .i64 l)).setCell ⟨g, 3, none⟩ (.bool false)).ownsRow w1.heap.size 35 1 (.slice A6 n c6) n vals ∧
    Below w1.heap.size w1 ((((w6.setCell ⟨g, 0, none⟩ (.slice A6 n c6)).setCell ⟨g, 1, none⟩ (.slice none 0 0)).setCell ⟨g, 2, none⟩ (.int .i64 l)).setCell ⟨g, 3, none⟩ (.bool false)) :=
  ⟨set4 K _ _ _ _, own_set_ne (own_set_ne (own_set_ne (own_set_ne HO K (by decide) _ _) (Blk_set K _) (by decide) _ _) (Blk_set (Blk_set K _) _) (by decide) _ _) (Blk_set (Blk_set (Blk_set K _) _) _) (by decide) _ _,
    (((HB.setCell hg _).setCell hg _).setCell hg _).setCell hg _⟩
theorem keep2 {w : World} {b g : Nat} {x y a0 a1 a2 a3 : Value} (hb : b ≠ g) (e0 : w.cell? ⟨b, 0, none⟩ = some x) (e2 : w.cell? ⟨b, 2, none⟩ = some y) :
    ((((w.setCell ⟨g, 0, none⟩ a0).setCell ⟨g, 1, none⟩ a1).setCell ⟨g, 2, none⟩ a2).setCell ⟨g, 3, none⟩ a3).cell? ⟨b, 0, none⟩ = some x ∧
    ((((w.setCell ⟨g, 0, none⟩ a0).setCell ⟨g, 1, none⟩ a1).setCell ⟨g, 2, none⟩ a2).setCell ⟨g, 3, none⟩ a3).cell? ⟨b, 2, none⟩ = some y := by
  have h : ∀ j, ((((w.setCell ⟨g, 0, none⟩ a0).setCell ⟨g, 1, none⟩ a1).setCell ⟨g, 2, none⟩ a2).setCell ⟨g, 3, none⟩ a3).cell? ⟨b, j, none⟩ = w.cell? ⟨b, j, none⟩ := fun j =>
    ((((Off.refl g w).setCell _ _).setCell _ _).setCell _ _).setCell _ _ _ hb
  exact ⟨(h 0).trans e0, (h 2).trans e2⟩
theorem sync_step {w1 wr : World} {g rg n c6 : Nat} {cs : Array Value} {vals : List Value} (hg : wr.heap[g]? = some (.cells cs 25 (0, 0))) (HO : wr.ownsRow w1.heap.size 35 1 (.slice (some ⟨rg, 0, none⟩) n c6) n vals) (HB : Below w1.heap.size w1 wr) (i : Nat) (u : Value) :
    ((wr.setCell ⟨rg, i, none⟩ u).drew).heap[g]? = some (.cells cs 25 (0, 0)) ∧ ((wr.setCell ⟨rg, i, none⟩ u).drew).ownsRow w1.heap.size 35 1 (.slice (some ⟨rg, 0, none⟩) n c6) n (vals.set i u) ∧ Below w1.heap.size w1 ((wr.setCell ⟨rg, i, none⟩ u).drew) := by
  refine ⟨?_, (HO.stored _ _).1.drew, (HB.setCell (p := ⟨rg, i, none⟩) (own_ge HO rfl) _).drew⟩
  refine (Below.heap_setCell _ _ _ _ fun e => ?_).trans hg
  rcases HO.2 with ⟨h, _⟩ | ⟨r, cap, cur, hv, _, hr, _⟩
  · cases h
  · cases hv
    have e' : g = rg := e
    rw [← e', hg] at hr; injection hr with hr; injection hr with _ h4; cases h4
theorem cells_flat_any {w : World} {M : Nat → Prop} {sz n : Nat} {A : Option Addr} {f : Nat → Nat → Value} (h : Cells w M sz A n f) (hsz : 0 < sz) (W : World) (hW : Below w.heap.size w W) : 0 < n → ∃ ad, A = some ad ∧ ∀ j u, (flat sz n f)[j]? = some u → W.cell? (ad.add j) = some u := fun h0 => by
  obtain ⟨ad, e, hh⟩ := h.flat h0 hsz
  exact ⟨ad, e, fun j u hu => (hW.cell (lt_of_cell (hh j u hu))).trans (hh j u hu)⟩
theorem one_mat {w : World} {M : Nat → Prop} {ss : List (List UInt8)} {vs : Nat → Value} (h : ∀ i, i < ss.length → IsBytes w M (vs i) (ss.getD i [])) : ∀ u ∈ flat 1 ss.length (fun i _ => vs i), u.oneCell' = true := fun u hu => by
  obtain ⟨j, hj⟩ := List.getElem?_of_mem hu
  obtain ⟨hl, rfl⟩ := flat_get hj
  simp only [Nat.div_one]
  exact one_of_bytes (h _ (by omega))
set_option maxRecDepth 20000 in
set_option maxHeartbeats 1600000 in
theorem refSync_stops (w : World) (M : Nat → Prop) (d : DiskD) (v : Value) (h : IsDisk w M v d) (hr : runsB d = true) (hx : 0 ≤ d.left ∧ d.left < d.pending.length) : Calls Try.prog 48 #[v] w (RetDiskE w (New M w) (syncD d)) := by
  have HS := Lib.hid (show syncD d = (⟨performD d.sectors (d.pending.take d.left.toNat), [], 0, true⟩, 340) by simp only [syncD, hr, if_true, if_pos hx])
  obtain ⟨hx1, hx2⟩ := hx
  have HG6 := Lib.hid (runs_parts hr).2.2.2.2.2.2
  replace h := h.mono (M' := fun b => M b ∧ b < w.heap.size) (fun b hb hM => ⟨hM, hb⟩)
  obtain ⟨sA, sc, pA, pc, rfl, hs1, hs2, hs3, hp1, hp2, hp3⟩ := h.parts
  obtain ⟨W1, hW1⟩ : ∃ W1, W1 = (w.alloc (.cells #[.slice sA d.sectors.length sc, .slice pA d.pending.length pc, .int .i64 d.left, .bool d.stopped] 25)).alloc (.cells #[.slice none 0 0, .slice none 0 0, .int .i64 0, .bool false] 25) := ⟨_, rfl⟩
  have hB1 : Below w.heap.size w W1 := by rw [hW1]; exact ((Below.refl w.heap.size w).alloc (Nat.le_refl _) _).alloc (by simp) _
  have hz : W1.heap.size = w.heap.size + 2 := by rw [hW1]; simp
  have k0 : W1.heap[w.heap.size]? = some (.cells #[.slice sA d.sectors.length sc, .slice pA d.pending.length pc, .int .i64 d.left, .bool d.stopped] 25 (0, 0)) := by rw [hW1]; exact heap2_0 _ _ _
  have k1 : W1.heap[w.heap.size + 1]? = some (.cells #[.slice none 0 0, .slice none 0 0, .int .i64 0, .bool false] 25 (0, 0)) := by rw [hW1]; exact heap2_1 _ _ _
  have C := Lib.hid (refCheck_any W1 _ d _ (h.below hB1))
  have HW := Lib.hid hW1
  have HB := Lib.hid hB1
  have HZ := Lib.hid hz
  have HK0 := Lib.hid k0
  have HK1 := Lib.hid k1
  clear hB1 h hz k0 k1
  go_enter Try.func48, Try.ntmps48
  go_wp2_with fail
  rw [← HW.out]
  refine C.out.mono ?_
  rintro e w1 ⟨rfl, hb1'⟩
  have KB := Lib.hid ((hb1'.block w.heap.size (by rw [HZ.out]; omega)).trans HK0.out)
  have KR := Lib.hid ((hb1'.block (w.heap.size + 1) (by rw [HZ.out]; omega)).trans HK1.out)
  have hsz := hb1'.size
  rw [HZ.out] at hsz
  have HF := Lib.hid (HB.out.trans (hb1'.mono HB.out.size))
  clear hb1' hW1
  obtain ⟨⟨c0, c1, c2, c3⟩, ⟨f0, f1, f2, f3⟩⟩ := blk4 (Below.refl _ _) KB.out (Nat.lt_succ_self _)
  obtain ⟨⟨r0, r1, r2, r3⟩, ⟨q0, q1, q2, q3⟩⟩ := blk4 (Below.refl _ _) KR.out (Nat.lt_succ_self _)
  obtain ⟨hst, g1, g2, g3, _, _, _⟩ := runs_parts hr
  have ho : okB d = true := by simp [runsB] at hr; exact hr.1
  rw [chk_of ho]
  rw [hst] at c3
  clear ho hst hr
  obtain ⟨i0, hi, hz0, hz1, hz2⟩ := info_parts Try.infoSl
  obtain ⟨vs, hq3, hq4⟩ := hs3
  have HGood := Lib.hid (Good.of_vs hq4)
  have HFL := Lib.hid (cells_flat_any (hq3.below HF.out) (by omega))
  have HONE := Lib.hid (one_mat hq4)
  clear hq3 hq4
  have hl1 : w.heap.size < w1.heap.size := by omega
  go_upto_region 7 with fail
  go_cut [6] (fun s6 wx => ∃ (g : Nat) (v6 : Value), s6 = .pointer (some ⟨g, 0, none⟩) ∧ Hid (w1.heap.size ≤ g ∧ wx.heap[g]? = some (.cells #[v6, .slice none 0 0, .int .i64 d.left, .bool false] 25 (0, 0)) ∧ wx.ownsRow w1.heap.size 35 1 v6 d.sectors.length (flat 1 d.sectors.length (fun i _ => vs i)) ∧ Below w1.heap.size w1 wx))
  case first =>
    go_region_held3 (fun w' => w'.cell? ⟨w.heap.size, 0, none⟩ = some (.slice sA d.sectors.length sc) ∧ w'.cell? ⟨w.heap.size, 2, none⟩ = some (.int .i64 d.left)) (first | with_reducible exact ⟨e0, e2⟩ | with_reducible exact keep2 (by omega) e0 e2 | go_keep) ((refine step_append_cells _ rfl (.tmp 31) (.tmp 33) 22 rfl w1.heap.size 35 i0 (.slice none 0 0) 1 24 Try.underlying22 hi hz0 hz1 hz2 rfl (by decide) (.slice (some ⟨_, 0, none⟩) 0 0) 0 [] rfl (by refine own_empty ?_ ?_; (focus ((repeat (first | simp only [heap_drew] | simp only [World.heap_drewN] | simp only [heap_alloc_if] | simp only [World.size_alloc] | simp only [World.size_drew])); repeat (first | rw [if_pos trivial] | rw [if_pos (by omega)] | rw [if_neg (by omega)]))); (focus omega)) sA d.sectors.length sc (flat 1 d.sectors.length (fun i _ => vs i)) (by go_simp) (flat_length _ _ _) (by exact HFL.out _ (by repeat (first | exact Below.refl _ _ | refine Below.alloc ?_ (by first | exact Nat.le_refl _ | (simp; done) | (simp; omega)) _ | refine Below.drew ?_))) (by exact HONE.out) (by unfold maxLen; omega) (by omega) (by simp <;> omega) ?_; intro v6 w6 hown hgrow hat; clear hat; rw [Nat.zero_add, List.nil_append] at hown; have hB6 : Below w1.heap.size w1 w6 := Below.grown (by repeat (first | exact Below.refl _ _ | refine Below.alloc ?_ (by first | exact Nat.le_refl _ | (simp; done) | (simp; omega)) _ | refine Below.drew ?_)) hgrow (by simp <;> omega) (fun k e => by simp [Value.ownBlock] at e <;> omega); obtain ⟨⟨e0, e1, e2, e3⟩, _⟩ := blk4 hB6 KB.out (by omega); have hsz6 := hB6.size; have hl6 : w.heap.size < w6.heap.size := (by omega); have HB6 := Lib.hid hB6; obtain ⟨A6, c6, hv6, h61, h62, _⟩ := own_cells1 hown; subst hv6; have HO6 := Lib.hid hown; have HG6' := Lib.hid hgrow; clear hB6 hown; (first | (refine have_hid (p := w6.heap[w1.heap.size]? = some (.cells #[.slice none 0 0, .slice none 0 0, .int .i64 0, .bool false] 25 (0, 0))) ?_ (fun K6 => ?_); (focus (refine Eq.trans (hgrow.block _ ?_ ?_) ?_; (focus (simp <;> omega)); (focus (simp [Value.ownBlock]; done)); (focus ((repeat (first | simp only [heap_drew] | simp only [World.heap_drewN] | simp only [heap_alloc_if] | simp only [World.size_alloc] | simp only [World.size_drew])); (repeat (first | rw [if_pos trivial] | rw [if_pos (by omega)] | rw [if_neg (by omega)])))))); obtain ⟨⟨s0, s1, s2, s3⟩, ⟨t0, t1, t2, t3⟩⟩ := blk4 (Below.refl _ w6) K6.out (Nat.lt_succ_self _)) | (refine have_hid (p := w6.heap[w1.heap.size + 1]? = some (.cells #[.slice none 0 0, .slice none 0 0, .int .i64 0, .bool false] 25 (0, 0))) ?_ (fun K6 => ?_); (focus (refine Eq.trans (hgrow.block _ ?_ ?_) ?_; (focus (simp <;> omega)); (focus (simp [Value.ownBlock]; done)); (focus ((repeat (first | simp only [heap_drew] | simp only [World.heap_drewN] | simp only [heap_alloc_if] | simp only [World.size_alloc] | simp only [World.size_drew])); (repeat (first | rw [if_pos trivial] | rw [if_pos (by omega)] | rw [if_neg (by omega)])))))); obtain ⟨⟨s0, s1, s2, s3⟩, ⟨t0, t1, t2, t3⟩⟩ := blk4 (Below.refl _ w6) K6.out (Nat.lt_succ_self _)) | (have K6 : Hid True := trivial))))
    all_goals go_wp2_with fail
    all_goals go_meet
    all_goals first
      | (with_reducible refine ⟨w6.heap.size, .slice A6 d.sectors.length c6, rfl, ?_⟩; exact Lib.hid ⟨hsz6, heap_alloc_new _ _, HO6.out.alloc _, HB6.out.alloc hsz6 _⟩)
      | (with_reducible refine ⟨w1.heap.size, .slice A6 d.sectors.length c6, rfl, ?_⟩; exact Lib.hid ⟨Nat.le_refl _, cut_set (Nat.le_refl _) K6.out HO6.out HB6.out⟩)
      | (with_reducible refine ⟨w1.heap.size + 1, .slice A6 d.sectors.length c6, rfl, ?_⟩; exact Lib.hid ⟨Nat.le_succ _, cut_set (Nat.le_succ _) K6.out HO6.out HB6.out⟩)
  case rest =>
    obtain ⟨g, v6, rfl, HC⟩ := hcut
    obtain ⟨A6, c6, rfl, h61, h62, _⟩ := own_cells1 HC.out.2.2.1
    go_wp2_with fail
    go_loopw [7] (fun i wr => ∃ (k : Nat) (vals : List Value), k ≤ d.left.toNat ∧ i = .int .i64 k ∧ Hid (wr.heap[g]? = some (.cells #[.slice A6 d.sectors.length c6, .slice none 0 0, .int .i64 d.left, .bool false] 25 (0, 0)) ∧ wr.ownsRow w1.heap.size 35 1 (.slice A6 d.sectors.length c6) d.sectors.length vals ∧ Good w (fun b => M b ∧ b < w.heap.size) vals (performD d.sectors (d.pending.take k)) ∧ Below w1.heap.size w1 wr)) (fun i _ => d.left.toNat - (intOf i).toNat)
    case atStart => exact ⟨0, _, Nat.zero_le _, rfl, Lib.hid ⟨HC.out.2.1, HC.out.2.2.1, HGood.out, HC.out.2.2.2⟩⟩
    case round =>
      obtain ⟨k, vals, hk, rfl, HR⟩ := hrel
      have HFr := Lib.hid (HF.out.trans (HR.out.2.2.2.mono HF.out.size))
      have KBr := Lib.hid ((HR.out.2.2.2.block w.heap.size (by omega)).trans KB.out)
      have KRr := Lib.hid ((HR.out.2.2.2.block (w.heap.size + 1) (by omega)).trans KR.out)
      clear c0 c1 c2 c3 f0 f1 f2 f3 r0 r1 r2 r3 q0 q1 q2 q3
      have hszr := HR.out.2.2.2.size
      have hgs := HC.out.1
      obtain ⟨⟨c0, c1, c2, c3⟩, _⟩ := blk4 (Below.refl _ _) KBr.out (Nat.lt_succ_self _)
      obtain ⟨⟨r0, r1, r2, r3⟩, ⟨q0, q1, q2, q3⟩⟩ := blk4 (Below.refl _ _) KRr.out (Nat.lt_succ_self _)
      obtain ⟨⟨d0, d1, d2, d3⟩, ⟨g0, g1', g2', g3'⟩⟩ := blk4 (Below.refl _ _) HR.out.1 (Nat.lt_succ_self _)
      by_cases hlt : k < d.left.toNat
      · have hlt' : (k : Int) < d.left := by omega
        obtain ⟨b, off, bA, bc, rfl, hbl, hck, hck1, hd1, hd2, hd3⟩ := hp3.at_ HFr.out (show k < d.pending.length by omega)
        obtain ⟨q1', q2'⟩ := HG6.out k (by omega)
        obtain ⟨rg, rcap, hre, hrl, hrs⟩ := HR.out.2.1.form (by omega)
        cases hre
        have hvl : (d.pending[k]).pos.toNat < vals.length := by have := HR.out.2.1.1; omega
        obtain ⟨xo, hxo⟩ : ∃ xo, vals[(d.pending[k]).pos.toNat]? = some xo := ⟨vals[(d.pending[k]).pos.toNat], List.getElem?_eq_getElem hvl⟩
        have hcl := (HR.out.2.1.cellAt (d.pending[k]).pos.toNat (by omega)).trans hxo
        have hfr := HR.out.2.1.frozenAt (d.pending[k]).pos.toNat
        have hk0 : (0 : Int) ≤ (k : Int) := by omega
        have hkp : (k : Int) < (d.pending.length : Int) := by omega
        clear hxo
        go_wp2_with fail
        go_still_tail 15, (by kernel_rfl)
        change wpList _ _ _ _ _ wr.drew
        have HST' := Lib.hid (sync_step HR.out.1 HR.out.2.1 HR.out.2.2.2 (d.pending[k]).pos.toNat (.slice bA (d.pending[k]).data.length bc))
        have HGs := Lib.hid (HR.out.2.2.1.set (i := (d.pending[k]).pos.toNat) ⟨bA, bc, rfl, hd1, hd2, hd3⟩)
        go_wp2_with fail
        go_roundw
        case rel => exact ⟨k + 1, vals.set (d.pending[k]).pos.toNat (.slice bA (d.pending[k]).data.length bc), by omega, by go_num, Lib.hid ⟨HST'.out.1, HST'.out.2.1, by rw [performD_snoc _ _ _ (by omega)]; exact HGs.out, HST'.out.2.2⟩⟩
        case measure => simp [intOf]; omega
      · have hk2 : k = d.left.toNat := by omega
        have HK2 := Lib.hid hk2
        have hnlt' : ¬ (k : Int) < d.left := by omega
        clear hk2
        have HGf := HR.out.2.2.1
        rw [HK2.out] at HGf
        have HGf' := Lib.hid HGf
        clear HGf
        have hgw : w.heap.size + 1 < g := by omega
        go_wp2_with fail
        refine bodyPost_ret (v := .tuple #[.agg #[.slice A6 d.sectors.length c6, .slice none 0 0, .int .i64 0, .bool true], .int .i64 340]) (by simp [results, Try.results48, go_sem, r0, r1, r2, r3]) rfl ?_
        refine nameG (p := RetDiskE w _ _ _) fun wf hwf => ?_
        have hbf : Below w.heap.size w wf := by
          rw [hwf.out]; repeat (first | refine Below.setCell ?_ (by first | (simp; done) | (simp; omega)) _ | exact HFr.out)
        have hof : wf.ownsRow w1.heap.size 35 1 (.slice A6 d.sectors.length c6) d.sectors.length vals := by rw [hwf.out]; exact (ownsRow_setCell_below (ownsRow_setCell_below (ownsRow_setCell_below (ownsRow_setCell_below (own_set_ne (own_set_ne HR.out.2.1 HR.out.1 (by decide) _ _) (Blk_set HR.out.1 _) (by decide) _ _) (by dsimp only; omega) _) (by dsimp only; omega) _) (by dsimp only; omega) _) (by dsimp only; omega) _)
        refine RetDiskE.mk' (d := ⟨performD d.sectors (d.pending.take d.left.toNat), [], 0, true⟩) ⟨_, _, rfl, ?_, IsWrs.nil⟩ hbf HS.out
        refine mat_of_own hof (performD_length _ _).symm (fun i hi => ?_) (fun b hb => .inr (by omega))
        exact ((HGf'.out.2 i hi).below hbf).mono fun b _ h => .inl h.1
end Go.Proofs.Ytocjhepiooljpaa
