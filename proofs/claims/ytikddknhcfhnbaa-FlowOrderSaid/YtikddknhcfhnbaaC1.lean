/- levels. -/
import Derived.Test.YtikddknhcfhnbaaB6
import Derived.WalkMore
namespace Go.Proofs.Ytikddknhcfhnbaa
open Go.RowKit Go.Deep
def LevelsW (w : World) (n : NetD) (V : Nat) (fo bk : Nat → Int) (e : Ending) (w' : World) : Prop := ∃ bl lv, e = .returned (.slice (some ⟨bl, 0, none⟩) V V) ∧ w.heap.size ≤ bl ∧ w'.rowIs bl 3 V (fun i => .int .i64 (lv i)) ∧ LevP (EdR n fo bk) V lv ∧ Below w.heap.size w w'
/-- breadth first in memory -/
structure BfsW (w wr : World) (n : NetD) (va : Value) (V bl bq : Nat) (v : Value) (lv : Nat → Int) (q : List Int) : Prop where
  bel : Below w.heap.size w wr
  box : wr.heap[w.heap.size]? = some (.cells #[.int .i64 n.vs, va] 24 (0, 0))
  row : wr.rowIs bl 3 V (fun i => .int .i64 (lv i))
  lb : w.heap.size < bl
  que : QueW wr bq v q
  qb : w.heap.size < bq
  ne : bq ≠ bl
theorem BfsW.below {w wr W : World} {n : NetD} {va : Value} {V bl bq : Nat} {v : Value} {lv : Nat → Int} {q : List Int} (h : BfsW w wr n va V bl bq v lv q) (hb : Below wr.heap.size wr W) : BfsW w W n va V bl bq v lv q :=
  ⟨h.bel.trans (hb.mono h.bel.size), (hb.block _ (lt_heap h.box)).trans h.box, h.row.of_block (hb.block _ h.row.lt), h.lb, h.que.of_block (hb.block _ h.que.lt), h.qb, h.ne⟩
/-- a level is laid and the vertex joins the queue -/
theorem BfsW.take {w wr W w' : World} {n : NetD} {va : Value} {V bl bq bq' t : Nat} {off cap : Nat} {v' : Value} {lv : Nat → Int} {q : List Int} {x y : Int} (h : BfsW w wr n va V bl bq (.slice (some ⟨bq, off, none⟩) q.length cap) lv q)
    (hW : W = (wr.setCell ⟨bl, t, none⟩ (.int .i64 x)).alloc (.cells #[.int .i64 y] 3)) (hg : QueG W w' bq bq' v' (q ++ [y])) : BfsW w w' n va V bl bq' v' (updI lv t x) (q ++ [y]) := by
  have hz : (wr.setCell ⟨bl, t, none⟩ (.int .i64 x)).heap.size = wr.heap.size := by simp [World.setCell]
  have hWs : W.heap.size = wr.heap.size + 1 := by rw [hW]; simp [World.setCell]
  have hl := h.lb
  have hq := h.qb
  have hne := h.ne
  have hbl := h.row.lt
  have hsz := h.bel.size
  have hbW : Below w.heap.size w W := by
    rw [hW]; exact (h.bel.setCell (by show w.heap.size ≤ bl; omega) _).alloc (by rw [hz]; omega) _
  have hboxW : W.heap[w.heap.size]? = some (.cells #[.int .i64 n.vs, va] 24 (0, 0)) := by
    rw [hW, heap_alloc_if, if_neg (by rw [hz]; omega), heap_set_if, if_neg (by omega)]; exact h.box
  have hrowW : W.rowIs bl 3 V (fun i => .int .i64 (updI lv t x i)) := by
    rw [hW]
    refine ((h.row.set t (.int .i64 x)).alloc _).congr fun i _ => ?_
    unfold updI
    split <;> rfl
  refine ⟨⟨hg.grow.os.trans hbW.os, hg.grow.tape.trans hbW.tape, hg.grow.output.trans hbW.output, Nat.le_trans hbW.size hg.grow.size, fun k hk => (hg.grow.block k (by omega) fun e => ?_).trans (hbW.block k hk)⟩, (hg.grow.block _ (by omega) fun e => ?_).trans hboxW, hrowW.of_block (hg.grow.block _ (by omega) fun e => ?_), hl, hg.que, ?_, ?_⟩
  · injection e with e; omega
  · injection e with e; omega
  · injection e with e; exact hne e.symm
  · rcases hg.own with e | e <;> omega
  · rcases hg.own with e | e <;> omega
set_option maxRecDepth 20000 in
set_option maxHeartbeats 4000000 in
theorem levels_any (w : World) (M : Nat → Prop) (v : Value) (n : NetD) (h : IsNet w M v n) {V : Nat} (hn : NOk n V) {base g lb : Nat} {X : Nat → Value} {fo bk : Nat → Int} (hl : LinksW w base g lb n.arcs.length X (adjT n.arcs n.arcs.length) fo bk) :
    Calls Try.prog 27 #[.pointer (some ⟨g, 0, none⟩), v] w (LevelsW w n V fo bk) := by
  have CS := fun W (hb : Below w.heap.size w W) z (hz : ixA z < n.arcs.length) => Lib.hid (step_code W M v n (h.below hb) hn (hl.below hb).left z hz)
  have HN := Lib.hid hn
  have HL := Lib.hid hl
  have hVs := hn.vs
  have hV2 := hn.lo
  have hV5 := hn.hi
  obtain ⟨va, rfl, -⟩ := h
  rw [hVs] at CS ⊢
  clear hl hn
  go_enter Try.func27, Try.ntmps27
  go_wp2_with fail
  go_step3
  go_wp2_with fail
  refine nameW fun W1 hW1 => ?_
  have hB1 : Below w.heap.size w W1 := by rw [hW1.out]; exact ((Below.refl _ _).alloc (Nat.le_refl _) _).alloc (by simp) _
  have hk1 : W1.heap[w.heap.size]? = some (.cells #[.int .i64 (V : Int), va] 24 (0, 0)) := by rw [hW1.out, heap_alloc_if, if_neg (by simp), heap_alloc_if, if_pos rfl]
  have hk2 : W1.heap[w.heap.size + 1]? = some (.cells #[.int .i64 (-1)] 3 (0, 0)) := by rw [hW1.out, heap_alloc_if, if_pos (by simp)]
  have hs1 : W1.heap.size = w.heap.size + 2 := by rw [hW1.out]; simp
  clear hW1
  refine (repeat_any W1 ⟨w.heap.size + 1, 0, none⟩ 1 V (.int .i64 (-1)) (by omega) (by omega) (cell_of hk2 rfl) rfl).mono ?_
  rintro e w2 ⟨rfl, hr2, hb2⟩
  have hk3 := (hb2.block _ (lt_heap hk1)).trans hk1
  have hB2 := hB1.trans (hb2.mono hB1.size)
  clear hb2 hk1 hk2 hB1
  obtain ⟨bl, hbl⟩ : ∃ bl, bl = W1.heap.size := ⟨_, rfl⟩
  rw [← hbl] at hr2 ⊢
  have hrow : w2.rowIs bl 3 V (fun _ => .int .i64 (-1)) := ⟨_, hr2, by simp, fun i hi => by simp [hi]⟩
  have hbN : w.heap.size < bl := by omega
  have hbl2 := hrow.lt
  have c2 := hrow.cell (i := 0) (by omega)
  have f2 := hrow.frozen 0
  have hV0 : (0 : Int) < (V : Int) := by omega
  have HB2 := Lib.hid hB2
  have HK2 := Lib.hid hk3
  have HR2 := Lib.hid hrow
  clear hB2 hk3 hrow hr2 hbl hs1
  go_wp2_with fail
  go_step3
  have hW3 : ∀ W3, W3 = (w2.setCell ⟨bl, 0, none⟩ (.int .i64 0)).alloc (.cells #[.int .i64 0] 3) → BfsW w W3 n va V bl w2.heap.size (.slice (some ⟨w2.heap.size, 0, none⟩) 1 1) (updI (fun _ => -1) 0 0) [0] := by
    rintro W3 rfl
    have hz : (w2.setCell ⟨bl, 0, none⟩ (.int .i64 0)).heap.size = w2.heap.size := by simp [World.setCell]
    have hq := QueW.one (w2.setCell ⟨bl, 0, none⟩ (.int .i64 0)) 0
    rw [hz] at hq
    refine ⟨?_, ?_, ?_, hbN, hq, by omega, by omega⟩
    · exact (HB2.out.setCell (by show w.heap.size ≤ bl; omega) _).alloc (by rw [hz]; omega) _
    · rw [heap_alloc_if, if_neg (by rw [hz]; omega), heap_set_if, if_neg (by omega), hVs]; exact HK2.out
    · refine (((HR2.out.set 0 (.int .i64 0)).alloc _)).congr fun i _ => ?_
      unfold updI
      split <;> rfl
  have hs3 : ∀ W3, W3 = (w2.setCell ⟨bl, 0, none⟩ (.int .i64 0)).alloc (.cells #[.int .i64 0] 3) → w2.heap.size < W3.heap.size := by
    rintro W3 rfl
    simp [World.setCell]
  generalize (w2.setCell ⟨bl, 0, none⟩ (.int .i64 0)).alloc (.cells #[.int .i64 0] 3) = W3 at hW3 hs3 ⊢
  have HF3 := Lib.hid (hW3 W3 rfl)
  have hq3 := hs3 W3 rfl
  clear hW3 hs3 c2 f2 HB2 HK2 HR2
  obtain ⟨bq, hbq⟩ : ∃ bq, bq = w2.heap.size := ⟨_, rfl⟩
  rw [← hbq] at HF3 ⊢
  clear hbq hbl2 hq3
  go_wp2_with fail
  go_loopg [6] (2 * cntN (updI (fun _ => -1) 0 0) V + 1) (fun gk q6 wr => ∃ bq lv q, Hid (BfsW w wr n va V bl bq q6 lv q) ∧ Hid (BfsC (EdR n fo bk) V lv q V) ∧ Hid (lv (V - 1) < 0) ∧ gk = 2 * cntN lv V + q.length ∧ gk ≤ 2 * V)
  case atStart =>
    have h1 := cntN_upd (lv := fun _ => -1) (t := 0) (x := 0) (by omega) (Int.le_refl _) (k := V) (by omega)
    rw [cntN_neg] at h1
    exact ⟨bq, _, _, HF3, Lib.hid (BfsC.start hV2), Lib.hid (by rw [updI_other (by omega)]; omega), rfl, by omega⟩
  case round =>
    obtain ⟨bq, lv, q, HF, HC, HS, hgk, hgV⟩ := hrel
    clear HF3
    obtain ⟨off, cap, cs, hq6, -, -⟩ := HF.out.que.at_
    subst hq6
    rcases q with _ | ⟨x, q⟩
    · simp only [List.length_nil]
      go_wp2_with fail
      rw [Exit.noGoto_ret]
      go_ret
      exact ⟨bl, lv, rfl, Nat.le_of_lt hbN, HF.out.row, HC.out.lev (.inr ⟨rfl, rfl⟩), HF.out.bel⟩
    · obtain ⟨u, huV, hx, hu0⟩ := HC.out.inq x List.mem_cons_self
      subst hx
      have HU0 := Lib.hid hu0
      have HQ := Lib.hid HF.out.que
      have hc0 : wr.cell? ⟨bq, off, none⟩ = some (.int .i64 (u : Int)) := HF.out.que.cell (j := 0) (by simp)
      obtain ⟨L, hL⟩ : ∃ L, L = ((u : Int) :: q).length := ⟨_, rfl⟩
      have hL2 : L = q.length + 1 := hL
      rw [← hL]
      have hL0 : 0 < L := by omega
      have hL0' : (0 : Int) < (L : Int) := by omega
      have hL1 : 1 ≤ L := by omega
      have hL1' : (1 : Int) ≤ (L : Int) := by omega
      clear hu0
      go_upto_region 7 with fail
      have HQ2 := Lib.hid (QueW.cut HQ.out)
      rw [List.length_cons, Nat.add_sub_cancel] at HQ2
      generalize Value.slice (if cap = 1 then some ⟨bq, off, none⟩ else some ⟨bq, off + 1, none⟩) q.length (cap - 1) = vq at HQ2 ⊢
      have HF2 : Hid (BfsW w wr n va V bl bq vq lv q) := Lib.hid ⟨HF.out.bel, HF.out.box, HF.out.row, HF.out.lb, HQ2.out, HF.out.qb, HF.out.ne⟩
      have HC2 := Lib.hid HC.out.pop
      have hgk2 : 2 * cntN lv V + q.length < gk := by rw [hgk, List.length_cons]; omega
      clear hL hL2 hL0 hL0' hL1 hL1'
      clear HQ HQ2 HF HC hc0 hgk
      have hadj := (HL.out.below HF2.out.bel).adj
      have hown := HL.out.adj.own u (by omega)
      have hcu := hadj.cell (v := u) (by omega)
      obtain ⟨l, hl⟩ : ∃ l, l = adjT n.arcs n.arcs.length u := ⟨_, rfl⟩
      have HM : Hid (∀ z, z ∈ l ↔ ixA z < n.arcs.length ∧ tlA n z = (u : Int)) := Lib.hid fun z => by rw [hl]; exact adj_mem HN.out (Nat.le_refl _)
      have hll : l.length ≤ 8192 := by rw [hl]; have h1 := adjT_len n.arcs n.arcs.length u; have h2 := HN.out.len; omega
      rw [← hl] at hown
      clear hl hadj
      obtain ⟨Au, du, hxu⟩ := own_sl hown
      rw [hxu] at hown hcu
      have HI := Lib.hid (IsInts.ofOwn hown)
      have hu0 : (0 : Int) ≤ (u : Int) := by omega
      have hu512 : (u : Int) < 512 := by omega
      clear hown hxu
      go_wp2_with fail
      go_loopg [6, 34] l.length (fun gj q6 q34 wx => ∃ k bq lv q, k ≤ l.length ∧ gj = l.length - k ∧ q34 = .int .i64 (k : Int) ∧ Hid (BfsW w wx n va V bl bq q6 lv q) ∧ Hid (BfsC (EdR n fo bk) V lv q u) ∧ Hid (lv (V - 1) < 0) ∧ Hid (0 ≤ lv u) ∧ Hid (∀ j, j < k → 0 < rmA fo bk (nthI l j) → 0 ≤ lv (hdA n (nthI l j)).toNat) ∧ 2 * cntN lv V + q.length < gk)
      case atStart => exact ⟨0, bq, lv, q, Nat.zero_le _, rfl, rfl, HF2, HC2, HS, HU0, Lib.hid fun j hj => absurd hj (by omega), hgk2⟩
      case round =>
        obtain ⟨k, bq, lv, q, hk, hgj, rfl, HF, HC, HS, HU, HD, hlt⟩ := hrel
        clear HF2 HC2 HU0
        obtain ⟨off, cap, cs, hq6, -, -⟩ := HF.out.que.at_
        subst hq6
        have HQ := Lib.hid HF.out.que
        by_cases hkl : k < l.length
        · have hkl' : (k : Int) < (l.length : Int) := by omega
          have hk0 : (0 : Int) ≤ (k : Int) := by omega
          obtain ⟨ba, oa, rfl, hba, hcz⟩ := HI.out.at_ HF.out.bel hkl
          obtain ⟨z, hz⟩ : ∃ z, z = nthI l k := ⟨_, rfl⟩
          rw [← hz] at hcz
          have hzm := (HM.out z).1 (by rw [hz, nthI_get hkl]; exact List.getElem_mem hkl)
          obtain ⟨t, htV, hht, -⟩ := hdA_rng HN.out hzm.1
          have HZ := Lib.hid hz
          have HZM := Lib.hid hzm
          have HHT := Lib.hid hht
          have hb0 : wr.cell? ⟨w.heap.size, 0, none⟩ = some (.int .i64 (V : Int)) := by rw [← hVs]; exact cell_of HF.out.box rfl
          have hb1 : wr.cell? ⟨w.heap.size, 1, none⟩ = some va := cell_of HF.out.box rfl
          clear hz hzm hht
          go_wp2_with fail
          refine (CS wr HF.out.bel z HZM.out.1).out.mono ?_
          rintro e w5 ⟨rfl, hb5⟩
          have HF5 := Lib.hid (HF.out.below hb5)
          have htI : (t : Int) < (V : Int) := by omega
          have ht0 : (0 : Int) ≤ (t : Int) := by omega
          rw [HHT.out]
          obtain ⟨r, hr⟩ : ∃ r, r = rmA fo bk z := ⟨_, rfl⟩
          rw [← hr]
          have HR := Lib.hid hr
          clear hr hb5 hb0 hb1 hcz HF HQ
          by_cases hr0 : 0 < r
          · have hct := HF5.out.row.cell htV
            have hft := HF5.out.row.frozen t
            obtain ⟨y, hy⟩ : ∃ y, y = lv t := ⟨_, rfl⟩
            rw [← hy] at hct
            by_cases hy0 : y < 0
            · have huI : (u : Int) < (V : Int) := by omega
              have hcu5 := HF5.out.row.cell huV
              obtain ⟨yu, hyu⟩ : ∃ yu, yu = lv u := ⟨_, rfl⟩
              have hrg := HC.out.rng u huV
              rw [← hyu] at hcu5 hrg
              have hwu : IntKind.i64.wrap (yu + 1) = yu + 1 := IntWalk.i64_in _ (by omega)
              have HYU := Lib.hid hyu
              have HY := Lib.hid hy
              clear hyu hy hrg
              go_upto_region 13 with fail
              have hQ6 : ∀ W, W = (w5.setCell ⟨bl, t, none⟩ (.int .i64 (yu + 1))).alloc (.cells #[.int .i64 (t : Int)] 3) → QueW W bq (.slice (some ⟨bq, off, none⟩) q.length cap) q ∧ W.cell? ⟨w5.heap.size, 0, none⟩ = some (.int .i64 (t : Int)) := by
                rintro W rfl
                have hz : (w5.setCell ⟨bl, t, none⟩ (.int .i64 (yu + 1))).heap.size = w5.heap.size := by simp [World.setCell]
                refine ⟨HF5.out.que.of_block ?_, ?_⟩
                · rw [heap_alloc_if, if_neg (by rw [hz]; have := HF5.out.que.lt; omega), heap_set_if, if_neg HF5.out.ne]
                · have := cell_new1 (w5.setCell ⟨bl, t, none⟩ (.int .i64 (yu + 1))) (.int .i64 (t : Int)) 3
                  rw [hz] at this
                  exact this
              have HQ6 := fun W hW => Lib.hid (hQ6 W hW)
              have hql : q.length < 100000 := by omega
              clear hQ6 hct hft hcu5
              go_upto_region 14 with (refine wpList_queue rfl (.tmp 62) (.tmp 64) rfl q rfl (HQ6 _ rfl).out.1 (t : Int) rfl (HQ6 _ rfl).out.2 hql ?_; intro b' off' cap' w7 H7)
              have HF7 : Hid (BfsW w w7 n va V bl b' (.slice (some ⟨b', off', none⟩) (q.length + 1) cap') (updI lv t (yu + 1)) (q ++ [(t : Int)])) := Lib.hid (BfsW.take HF5.out rfl H7.out)
              have hb7 : w7.cell? ⟨w.heap.size, 0, none⟩ = some (.int .i64 (V : Int)) := by rw [← hVs]; exact cell_of HF7.out.box rfl
              have hwV : IntKind.i64.wrap ((V : Int) - 1) = (V : Int) - 1 := IntWalk.i64_in _ (by omega)
              have hE : EdR n fo bk u t := ⟨z, HZM.out.1, HZM.out.2, HHT.out, by rw [← HR.out]; exact hr0⟩
              have hT := HC.out.take huV HU.out htV (by rw [← HY.out]; exact hy0) hE
              rw [← HYU.out] at hT
              obtain ⟨hT1, hT2⟩ := hT
              have HT1 := Lib.hid hT1
              have HY0 : Hid (∀ x, 0 ≤ lv x → 0 ≤ updI lv t (yu + 1) x) := Lib.hid fun x hx => by
                rw [updI_other fun e => by subst e; rw [← HY.out] at hx; omega]; exact hx
              have HYT : Hid (0 ≤ updI lv t (yu + 1) t) := Lib.hid (by rw [updI_same]; have := HU.out; rw [← HYU.out] at this; omega)
              clear hwu H7 HQ6 hE hT1
              by_cases hts : (t : Int) = (V : Int) - 1
              · go_wp2_with fail
                rw [Exit.noGoto_ret]
                go_ret
                exact ⟨bl, _, rfl, Nat.le_of_lt hbN, HF7.out.row, HT1.out.lev (.inl (by rw [show V - 1 = t by omega]; exact HYT.out)), HF7.out.bel⟩
              · go_wp2_with fail
                go_roundg (l.length - (k + 1))
                case measure => omega
                case rel =>
                  refine ⟨k + 1, b', _, q ++ [(t : Int)], by omega, rfl, by go_num, HF7, HT1, Lib.hid (by rw [updI_other (by omega)]; exact HS.out), Lib.hid (HY0.out u HU.out), Lib.hid fun j hj hjr => ?_, by rw [List.length_append, List.length_singleton]; omega⟩
                  rcases Nat.lt_or_ge j k with a | a
                  · exact HY0.out _ (HD.out j a hjr)
                  · obtain rfl : j = k := by omega
                    rw [← HZ.out, HHT.out, Int.toNat_natCast]; exact HYT.out
            · have HY := Lib.hid hy
              clear hy
              go_wp2_with fail
              go_roundg (l.length - (k + 1))
              case measure => omega
              case rel =>
                refine ⟨k + 1, bq, lv, q, by omega, rfl, by go_num, HF5, HC, HS, HU, Lib.hid fun j hj hjr => ?_, hlt⟩
                rcases Nat.lt_or_ge j k with a | a
                · exact HD.out j a hjr
                · obtain rfl : j = k := by omega
                  rw [← HZ.out, HHT.out, Int.toNat_natCast, ← HY.out]; omega
          · go_wp2_with fail
            go_roundg (l.length - (k + 1))
            case measure => omega
            case rel =>
              refine ⟨k + 1, bq, lv, q, by omega, rfl, by go_num, HF5, HC, HS, HU, Lib.hid fun j hj hjr => ?_, hlt⟩
              rcases Nat.lt_or_ge j k with a | a
              · exact HD.out j a hjr
              · obtain rfl : j = k := by omega
                rw [← HZ.out, ← HR.out] at hjr; omega
        · have hnl : ¬ (k : Int) < (l.length : Int) := by omega
          obtain rfl : l.length = k := by omega
          go_wp2_with fail
          go_roundg (2 * cntN lv V + q.length)
          case measure => omega
          case rel =>
            refine ⟨bq, lv, q, HF, Lib.hid (HC.out.done fun x hx => ?_), HS, rfl, by omega⟩
            obtain ⟨z, h1, h2, h3, h4⟩ := hx
            obtain ⟨i, hi, hzi⟩ := List.mem_iff_getElem.1 ((HM.out z).2 ⟨h1, h2⟩)
            have := HD.out i hi (by rw [nthI_get hi, hzi]; exact h4)
            rwa [nthI_get hi, hzi, h3, Int.toNat_natCast] at this
end Go.Proofs.Ytikddknhcfhnbaa
