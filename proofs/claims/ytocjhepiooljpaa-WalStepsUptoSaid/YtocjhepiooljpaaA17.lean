/- Open of package wal. -/
import Derived.Test.YtocjhepiooljpaaA13
import Derived.Test.YtocjhepiooljpaaA16
namespace Go.Proofs.Ytocjhepiooljpaa
open Go.RowKit Go.Deep Go.Shelf

attribute [local go_sem] Oper.semAt_some

theorem records_any (A : Option Addr) (len cap : Nat) (w : World) : Calls Try.prog 32 #[.slice A len cap] w fun e w' => e = .returned (.func (.func 60) #[] #[.pointer (some ⟨w.heap.size, 0, none⟩)]) ∧ w' = w.alloc (.cells #[.slice A len cap] 22) := by
  go_enter Try.func32, Try.ntmps32
  go_wp2_with fail
  go_ret
  exact ⟨rfl, rfl⟩

theorem isBytes_quiet {w : World} {M : Nat → Prop} {v : Value} {bs : List UInt8} (h : IsBytes w M v bs) {l : Nat} {o o' : Obj} (hl : w.heap[l]? = some o) (ho : o.isCells = false) : IsBytes (w.putObj l o') M v bs := by
  obtain ⟨A, c, e, h1, h2, h3⟩ := h
  refine ⟨A, c, e, h1, h2, fun hn => ?_⟩
  obtain ⟨b, off, e2, hb, hc⟩ := h3 hn
  exact ⟨b, off, e2, hb, fun i j hi hj => cell_kept (hc i j hi hj) (grownBy_putObj' _ l o') (fun r e => by cases e; exact ⟨o, hl, ho⟩)⟩
theorem block_quiet {w : World} {k l : Nat} {cs : Array Value} {t : TypeId} {z : Nat × Nat} {o o' : Obj} (h : w.heap[k]? = some (.cells cs t z)) (hl : w.heap[l]? = some o) (ho : o.isCells = false) : (w.putObj l o').heap[k]? = some (.cells cs t z) := by
  rw [World.putObj_heap_other (fun e => by subst e; rw [h] at hl; cases hl; cases ho)]; exact h
theorem u8_quiet {w : World} {q l : Nat} {o o' : Obj} (h : U8 w q) (hl : w.heap[l]? = some o) (ho : o.isCells = false) : U8 (w.putObj l o') q := by
  obtain ⟨cs, z, h⟩ := h; exact ⟨cs, z, block_quiet h hl ho⟩
theorem rowsR_quiet {w : World} {base : Nat} {M : Nat → Prop} {v : Value} {ss : List (List UInt8)} (h : RowsR w base M v ss) {l : Nat} {o o' : Obj} (hl : w.heap[l]? = some o) (ho : o.isCells = false) : RowsR (w.putObj l o') base M v ss := by
  obtain ⟨vals, h1, h2⟩ := h
  refine ⟨vals, ⟨h1.1, ?_⟩, fun i hi => isBytes_quiet (h2 i hi) hl ho⟩
  rcases h1.2 with hx | ⟨g, cap, cur, e, hg, hgb, rest⟩
  · exact .inl hx
  · exact .inr ⟨g, cap, cur, e, hg, block_quiet hgb hl ho, rest⟩

theorem rowsR_other {w w' : World} {base : Nat} {M : Nat → Prop} {v : Value} {ss : List (List UInt8)} (h : RowsR w base M v ss) (hk : KM (fun k => base ≤ k ∨ M k) w w') : RowsR w' base M v ss := by
  obtain ⟨vals, h1, h2⟩ := h
  refine ⟨vals, ⟨h1.1, ?_⟩, fun i hi => (h2 i hi).keep fun p hp _ => hk.cell (Or.inr hp.1)⟩
  rcases h1.2 with hx | ⟨g, cap, cur, e, hg, hgb, rest⟩
  · exact .inl hx
  · exact .inr ⟨g, cap, cur, e, hg, (hk.block g (Or.inl hg)).trans hgb, rest⟩
theorem rowsR_own {w : World} {base : Nat} {M : Nat → Prop} {v : Value} {ss : List (List UInt8)} (h : RowsR w base M v ss) {k : Nat} (hk : v.ownBlock = some k) : base ≤ k ∧ ∃ cs z, w.heap[k]? = some (.cells cs 35 z) := by
  obtain ⟨vals, h1, -⟩ := h
  rcases h1.2 with ⟨rfl, _⟩ | ⟨g, cap, cur, rfl, hg, hgb, _⟩
  · cases hk
  · simp [Value.ownBlock] at hk
    subst hk
    exact ⟨hg, _, _, hgb⟩
section
variable {ops : Array Oper} {o : Oper} {a : Act} {rest : List Oper} {Q : Exit → Act → World → Prop} {w : World} {M : Nat → Prop}
theorem wpListIn_appR2 {F : Fence} {n : Nat} (hgd : o.guard = none) (s x : Operand) (ho : o.op = .call { callee := .builtin .append, args := #[s, x], argTypes := #[22, 22] }) (base : Nat) (v u : Value) (ss : List (List UInt8)) (b : List UInt8) (hs : a.eval s = v) (hr : RowsR w base M v ss)
    (hu : IsBytes w (fun k => M k ∧ v.ownBlock ≠ some k) u b) (g c : Nat) (hx : a.eval x = .slice (some ⟨g, 0, none⟩) 1 c) (hgc : w.cell? ⟨g, 0, none⟩ = some u) (hl : (ss.length + 1) * 24 ≤ 140737488355328) (hbase : base ≤ w.heap.size)
    (h : ∀ v' w', Hid (RowsR w' base M v' (ss ++ [b])) → Hid (w.grownBy w' v.ownBlock) → wpListIn F n Try.prog ops Q rest (a.put o.dst v') w') : wpListIn F n Try.prog ops Q (o :: rest) a w := by
  obtain ⟨i, hi, hz0, hz1, hz2⟩ := info_parts Try.infoSl
  obtain ⟨vals, h1, h2⟩ := id hr
  have hu1 : u.oneCell' = true := one_of_bytes hu
  refine wpListIn_plain hgd fun K hK' => ?_
  obtain ⟨v', w', hrun, h3, h4, h5⟩ := run_append_cells (P := Try.prog) w 22 o.type base 35 i (.slice none 0 0) 1 24 Try.underlying22 hi hz0 hz1 hz2 rfl (by decide) v ss.length vals h1 (some ⟨g, 0, none⟩) 1 c [u] rfl (fun _ => ⟨_, rfl, fun j y hj => by
    have hj0 : j = 0 := by have := (List.getElem?_eq_some_iff.1 hj).1; simp at this; exact this
    subst hj0
    simp at hj
    subst hj
    rw [addr_add]
    exact hgc⟩) (by intro y hy; rw [List.mem_singleton.1 hy]; exact hu1) (by unfold maxLen; omega) hl hbase
  unfold Oper.wpIn
  refine ⟨?_, ?_⟩
  · simp [Oper.about, ho, resolve, Target.leads, Sem.run_pure]
  · rw [Oper.semAt_plain F _ _ (by rw [ho]; intro c hc'; cases hc')]
    simp [execOp, ho, resolve, invoke, builtin, hs, hx, hrun, Result.andThen]
    exact hK' _ _ (h v' w' (RowsR.push h1 h2 hu h3 h4 h5) h4)
end

set_option maxRecDepth 20000 in
set_option maxHeartbeats 4000000 in
theorem open_any (w : World) (M : Nat → Prop) (d : DiskD) (v : Value) (h : IsDisk w M v d) : Calls Try.prog 12 #[v] w (RetLogE (fun b => w.heap.size ≤ b) w (openL d)) := by
  obtain ⟨sA, sc, pA, pc, rfl, hs1, hs2, hs3, hp1, hp2, hp3⟩ := h.parts
  obtain ⟨W1, hW1⟩ : ∃ W1, W1 = (w.alloc (.cells #[.slice sA d.sectors.length sc, .slice pA d.pending.length pc, .int .i64 d.left, .bool d.stopped] 25)).alloc (.cells #[.int .i64 0, .slice none 0 0, .int .i64 0] 29) := ⟨_, rfl⟩
  have hB1 : Below w.heap.size w W1 := by rw [hW1]; exact ((Below.refl w.heap.size w).alloc (Nat.le_refl _) _).alloc (by simp) _
  have hz : W1.heap.size = w.heap.size + 2 := by rw [hW1]; simp
  have k0 : W1.heap[w.heap.size]? = some (.cells #[.slice sA d.sectors.length sc, .slice pA d.pending.length pc, .int .i64 d.left, .bool d.stopped] 25 (0, 0)) := by rw [hW1]; exact heap2_0 _ _ _
  have k1 : W1.heap[w.heap.size + 1]? = some (.cells #[.int .i64 0, .slice none 0 0, .int .i64 0] 29 (0, 0)) := by rw [hW1]; exact heap2_1 _ _ _
  have C := Lib.hid (check_any W1 M d _ (h.below hB1))
  have HSM := Lib.hid hs3
  have HW := Lib.hid hW1
  have HB := Lib.hid hB1
  have HZ := Lib.hid hz
  have HK0 := Lib.hid k0
  have HK1 := Lib.hid k1
  clear hB1 h hz k0 k1 hs3 hp3
  refine (callsIn_wide (n := 6)).1 ?_
  refine callsIn_of_wp_marks Try.func12 rfl trivial ?_ rfl
  simp only [Try.ntmps12, List.size_toArray, List.length_cons, List.length_nil, Nat.reduceAdd, Nat.reduceSub, Array.replicate_succ, Array.replicate_zero, List.push_toArray, List.append_toArray, List.nil_append, List.cons_append]
  gi_wp2_with fail
  refine ⟨trivial, callsIn_wide.2 ?_⟩
  rw [← HW.out]
  clear hW1
  refine C.out.mono ?_
  rintro e w1 ⟨rfl, hb1⟩
  obtain ⟨⟨c0, c1, c2, c3⟩, ⟨f0, f1, f2, f3⟩⟩ := blk4 hb1 HK0.out (by rw [HZ.out]; omega)
  obtain ⟨⟨r0, r1, r2⟩, ⟨q0, q1, q2⟩⟩ := blk3 hb1 HK1.out (by rw [HZ.out]; omega)
  have hsz := hb1.size
  rw [HZ.out] at hsz
  have HF := Lib.hid (HB.out.trans (hb1.mono HB.out.size))
  have HKB := Lib.hid ((hb1.block (w.heap.size + 1) (by rw [HZ.out]; omega)).trans HK1.out)
  clear hb1 C
  by_cases hok : okB d = true
  · rw [chk_of hok]
    cases hst : d.stopped
    · rw [hst] at c3
      by_cases hp : d.pending = []
      · have hp0 : d.pending.length = 0 := by rw [hp]; rfl
        have HS := Lib.hid (show openL d = (⟨d.sectors.length, recs d.sectors, (recs d.sectors).length⟩, 0) by simp [openL, hok, hst, hp])
        rw [hp0] at c1
        obtain ⟨hl, hsz128⟩ := okB_sized hok
        have HOK := Lib.hid hok
        have HL := Lib.hid hl
        have HSZ := Lib.hid hsz128
        clear hok hst hp hp0 hl hsz128
        gi_wp2_with fail
        refine ⟨trivial, callsIn_wide.2 ?_⟩
        refine (records_any _ _ _ _).mono ?_
        rintro e w3 ⟨rfl, rfl⟩
        gi_wp2_with fail
        obtain ⟨W0, hW0⟩ : ∃ W0, W0 = (w1.setCell ⟨w.heap.size + 1, 0, none⟩ (.int .i64 (d.sectors.length : Int))).alloc (.cells #[.slice sA d.sectors.length sc] 22) := ⟨_, rfl⟩
        have hzW : W0.heap.size = w1.heap.size + 1 := by rw [hW0]; simp
        have hBW : Below w.heap.size w W0 := by rw [hW0]; exact (HF.out.setCell (p := ⟨w.heap.size + 1, 0, none⟩) (by simp) _).alloc (by simp; omega) _
        have hkW : W0.heap[w.heap.size + 1]? = some (.cells #[.int .i64 (d.sectors.length : Int), .slice none 0 0, .int .i64 0] 29 (0, 0)) := by
          rw [hW0, Below.heap_alloc _ _ _ (by simp; omega)]
          exact Blk_set HKB.out _
        have hBs : W0.cell? ⟨w1.heap.size, 0, none⟩ = some (.slice sA d.sectors.length sc) := by rw [hW0]; have := (Boxed.new (w1.setCell ⟨w.heap.size + 1, 0, none⟩ (.int .i64 (d.sectors.length : Int))) 22 (.slice sA d.sectors.length sc)).cell; simpa using this
        try simp only [World.size_setCell]
        rw [← hW0]
        clear hW0
        have HBW := Lib.hid hBW
        have h1s : 0 < d.sectors.length := by
          have := HOK.out
          unfold okB headOk at this
          simp only [Bool.and_eq_true, decide_eq_true_eq] at this
          omega
        obtain ⟨lb, lo, rfl⟩ := HSM.out.head h1s
        have hMc : MatC W0 (fun k => k < w.heap.size) (some ⟨lb, lo, none⟩) d.sectors := (HSM.out.mono (M' := fun k => k < w.heap.size) fun b hb _ => hb).keep fun p hp _ => HBW.out.cell hp
        have HMC := Lib.hid (hMc.mono (M' := fun k => k < W0.heap.size ∧ k ≠ w.heap.size + 1) fun b _ hb => ⟨by omega, by omega⟩)
        have HBS := Lib.hid hBs
        have HKW := Lib.hid hkW
        clear hMc hBs hkW hBW c0 c1 c2 c3 f0 f1 f2 f3 r0 r1 r2 q0 q1 q2
        refine wpIn_rangeR rfl (by omega) (gf := 60) (lb := #[.pointer (some ⟨w1.heap.size, 0, none⟩)]) rfl trivial (enters_of Try.func60 (by kernel_rfl) rfl) (encs := encY) (fun _ => rfl)
          (fun pre W => ∃ rv, W.heap[w.heap.size + 1]? = some (.cells #[.int .i64 (d.sectors.length : Int), rv, .int .i64 0] 29 (0, 0)) ∧ RowsR W W0.heap.size (fun q => W0.heap.size ≤ q) rv (pre.map Yl.bs) ∧ Below w.heap.size W0 W)
          (RY W0.heap.size) (Kp := KM (fun k => k < W0.heap.size ∧ k ≠ w.heap.size + 1)) (S := fun ys => ys.map Yl.bs = recs d.sectors) ?hIq ?hRq ?hIb ?h0 ?hseq km_t (km_b (fun k hk => hk.1)) (fun x => { tmps := #[.agg #[.slice (some ⟨lb, lo, none⟩) d.sectors.length sc, .slice pA d.pending.length pc, .int .i64 d.left, .bool false], .pointer (some ⟨w.heap.size, 0, none⟩), .pointer (some ⟨w.heap.size + 1, 0, none⟩), .int .i64 0, .int .i64 0, undef, x.val,
          .agg #[.slice (some ⟨lb, lo, none⟩) d.sectors.length sc, .slice pA d.pending.length pc, .int .i64 d.left, .bool false], .int .i64 0, .int .i64 0, .bool false, undef, undef, .pointer (some ⟨w.heap.size, 3, none⟩), .bool false, undef, .pointer (some ⟨w.heap.size, 1, none⟩), .slice pA 0 pc, .int .i64 0, .bool false, undef, .pointer (some ⟨w.heap.size, 0, none⟩),
          .slice (some ⟨lb, lo, none⟩) d.sectors.length sc, .int .i64 (d.sectors.length : Int), .pointer (some ⟨w.heap.size + 1, 0, none⟩), .pointer (some ⟨w.heap.size, 0, none⟩), .slice (some ⟨lb, lo, none⟩) d.sectors.length sc, .func (.func 60) #[] #[.pointer (some ⟨w1.heap.size, 0, none⟩)], .int .i64 (x.at_ : Int), x.val, undef, undef, undef, undef, undef, undef, undef, undef, undef, undef, undef], defers := [] }) ?assign ?body ?done
        case hIq =>
          rintro pre W l o o' hl ⟨rv, h1, h2, h3⟩ ho hc
          exact ⟨rv, block_quiet h1 ho hc, rowsR_quiet h2 ho hc, h3.grown (grownBy_putObj' W l o') (by have := HBW.out.size; have := h3.size; omega) (fun k e => by cases e; have := HBW.out.size; omega)⟩
        case hRq =>
          rintro pre x W l o o' hl ⟨h1, h2⟩ ho hc
          exact ⟨h1, (isBytes_quiet h2 ho hc).mono fun b hb hM => ⟨hM.1, u8_quiet hM.2 ho hc⟩⟩
        case hIb =>
          rintro pre A B ⟨rv, h1, h2, h3⟩ hB
          exact ⟨rv, (hB.block _ (lt_heap h1)).trans h1, h2.below hB, h3.trans (hB.mono (by have := HBW.out.size; have := h3.size; omega))⟩
        case h0 => exact ⟨_, HKW.out, RowsR.nil, Below.refl _ _⟩
        case hseq =>
          intro l J W hW hJb hY h0
          exact callsIn_wide.2 (records1_in _ l w1.heap.size W0.heap.size _ lb lo sc d.sectors HL.out HSZ.out ⟨by omega, by omega⟩ J hJb hY W hW.size (fun k hk => Nat.lt_of_lt_of_le hk.1 hW.size) ((hW.cell (p := ⟨w1.heap.size, 0, none⟩) (by show w1.heap.size < _; omega)).trans HBS.out) (HMC.out.keep fun p hp _ => hW.cell hp.1) h0)
        case assign =>
          intro l x W K hK
          simp only [encY]
          gi_wp2
          exact hK
        case body =>
          rintro l pre ⟨x1, xv, xb⟩ W ⟨rv, h1, h2, h3⟩ ⟨hpre, vA, vc, hxv, hR⟩
          obtain rfl : xv = .slice vA xb.length vc := hxv
          have hlen := h2.len
          obtain ⟨rA, rc, rfl, hr1, hr2⟩ := hlen
          simp only [List.length_map] at h1 h2 hr1
          have hlt0 : w.heap.size + 2 < W0.heap.size := by omega
          have HZW := Lib.hid hzW
          clear hzW
          have b0 := cell_of (j := 0) h1 rfl
          have b1 := cell_of (j := 1) h1 rfl
          have b2 := cell_of (j := 2) h1 rfl
          have z1 : W.frozen? ⟨w.heap.size + 1, 1, none⟩ = false := by simp [World.frozen?, h1]
          have hown : ∀ k, Value.ownBlock (.slice rA pre.length rc) = some k → W0.heap.size ≤ k ∧ ∃ cs z, W.heap[k]? = some (.cells cs 35 z) := fun k hk => rowsR_own h2 hk
          have hal : ∀ o, Below W.heap.size W (W.alloc o) := fun o => (Below.refl _ _).alloc (Nat.le_refl _) _
          have HC2 := Lib.hid fun o => h2.below (hal o)
          have HCU := Lib.hid fun o => IsBytes.mono (M' := fun k => W0.heap.size ≤ k ∧ Value.ownBlock (.slice rA pre.length rc) ≠ some k) (IsBytes.below (show IsBytes W (fun q => W0.heap.size ≤ q ∧ U8 W q) (.slice vA xb.length vc) xb from ⟨vA, vc, rfl, hR⟩) (hal o)) fun k _ hk => ⟨hk.1, fun e => by
            obtain ⟨cs, z, hu⟩ := hk.2
            obtain ⟨_, cs2, z2, hv⟩ := hown k e
            rw [hu] at hv
            injection hv with hv
            injection hv with _ hv
            exact absurd hv (by decide)⟩
          have H1 := Lib.hid h1
          have H3 := Lib.hid h3
          have HOW := Lib.hid hown
          have hszW := h3.size
          have hszw := HBW.out.size
          clear h1 h2 h3 hR hal hown
          gi_wp2_with (gi_at_builtin; refine wpListIn_appR2 rfl (.tmp 31) (.tmp 33) rfl W0.heap.size _ (.slice vA xb.length vc) (pre.map Yl.bs) xb rfl (HC2.out _) (HCU.out _) W.heap.size 1 rfl (Boxed.new W _ _).cell (by rw [List.length_map]; omega) (by simp; omega) ?_; intro v' w2 HO HG; have hol := HO.out.len; obtain ⟨nA, nc, rfl, hn1, hn2⟩ := hol; have hbx := (HG.out.block (w.heap.size + 1) (by simp; omega) (fun e => by have := (HOW.out _ e.symm).1; omega)).trans ((Below.heap_alloc W _ _ (show w.heap.size + 1 < W.heap.size by omega)).trans H1.out); have y1 := cell_of (j := 1) hbx rfl; have y2 : w2.frozen? ⟨w.heap.size + 1, 1, none⟩ = false := (by simp [World.frozen?, hbx]); have HBX := Lib.hid hbx; clear hbx)
          have hsz2 : W.heap.size + 1 ≤ w2.heap.size := by have := HG.out.size; simpa using this
          refine ⟨?_, ?_, _, Blk_set HBX.out _, ?_, ?_⟩
          · refine ((KeepsOthers.alloc W _).trans (KeepsOthers.of_grownBy HG.out fun j o ej hj => ?_)).trans (KeepsOthers.setCell _ _ _)
            obtain ⟨h9, cs, z, h10⟩ := HOW.out j ej
            rw [Below.heap_alloc _ _ _ (lt_heap h10), h10] at hj
            cases hj; rfl
          · refine KM.setCell (g := w.heap.size + 1) ⟨by omega, fun k hk => ?_⟩ (fun h => h.2 rfl) _ _
            exact (HG.out.block k (by simp; omega) (fun e => by have := (HOW.out _ e.symm).1; omega)).trans (Below.heap_alloc W _ _ (by omega))
          · have hO2 := HO.out
            rw [show (pre.map Yl.bs ++ [xb]).length = pre.length + 1 by simp] at hO2
            exact rowsR_other hO2 ((KM.refl _).setCell (by omega) _ _)
          · refine Below.setCell (Below.grown (H3.out.alloc (by omega) _) HG.out (by simp; omega) (fun k e => by have := (HOW.out _ e).1; omega)) (by simp) _
        case done =>
          rintro D xs W hD hS ⟨rv, h1, h2, h3⟩ hKD
          have hlen := h2.len
          obtain ⟨rA, rc, rfl, hr1, hr2⟩ := hlen
          simp only [hS] at h1 h2 hr1
          have hlt0 : w.heap.size + 2 < W0.heap.size := by omega
          have HZW := Lib.hid hzW
          clear hzW
          have b0 := cell_of (j := 0) h1 rfl
          have b1 := cell_of (j := 1) h1 rfl
          have b2 := cell_of (j := 2) h1 rfl
          have z0 : W.frozen? ⟨w.heap.size + 1, 0, none⟩ = false := by simp [World.frozen?, h1]
          have z1 : W.frozen? ⟨w.heap.size + 1, 1, none⟩ = false := by simp [World.frozen?, h1]
          have z2 : W.frozen? ⟨w.heap.size + 1, 2, none⟩ = false := by simp [World.frozen?, h1]
          have H1 := Lib.hid h1
          have H2 := Lib.hid h2
          have H3 := Lib.hid h3
          have HKD := Lib.hid hKD
          have HXS := Lib.hid hS
          clear h1 h2 h3 hKD hS
          gi_wp2_with fail
          have hb4 := Blk_set (j := 2) (Blk_set (j := 1) (Blk_set (j := 0) (Blk_set (j := 2) H1.out (.int .i64 ((recs d.sectors).length : Int))) (.int .i64 (d.sectors.length : Int))) (.slice rA (recs d.sectors).length rc)) (.int .i64 ((recs d.sectors).length : Int))
          have hk4 := ((((KeepsOthers.setCell W ⟨w.heap.size + 1, 2, none⟩ (.int .i64 ((recs d.sectors).length : Int))).trans (KeepsOthers.setCell _ ⟨w.heap.size + 1, 0, none⟩ (.int .i64 (d.sectors.length : Int)))).trans (KeepsOthers.setCell _ ⟨w.heap.size + 1, 1, none⟩ (.slice rA (recs d.sectors).length rc))).trans (KeepsOthers.setCell _ ⟨w.heap.size + 1, 2, none⟩ (.int .i64 ((recs d.sectors).length : Int)))).same D _ HKD.out rfl
          have hr4 := rowsR_other H2.out ((((KM.refl W).setCell (M := fun k => W0.heap.size ≤ k ∨ W0.heap.size ≤ k) (g := w.heap.size + 1) (by omega) 2 (.int .i64 ((recs d.sectors).length : Int))).setCell (g := w.heap.size + 1) (by omega) 0 (.int .i64 (d.sectors.length : Int))).setCell (g := w.heap.size + 1) (by omega) 1 (.slice rA (recs d.sectors).length rc) |>.setCell (g := w.heap.size + 1) (by omega) 2 (.int .i64 ((recs d.sectors).length : Int)))
          have hB4 := ((((HBW.out.trans H3.out).setCell (p := ⟨w.heap.size + 1, 2, none⟩) (by simp) (.int .i64 ((recs d.sectors).length : Int))).setCell (p := ⟨w.heap.size + 1, 0, none⟩) (by simp) (.int .i64 (d.sectors.length : Int))).setCell (p := ⟨w.heap.size + 1, 1, none⟩) (by simp) (.slice rA (recs d.sectors).length rc)).setCell (p := ⟨w.heap.size + 1, 2, none⟩) (by simp) (.int .i64 ((recs d.sectors).length : Int))
          generalize ((((W.setCell _ _).setCell _ _).setCell _ _).setCell _ _) = W4 at hb4 hk4 hr4 hB4 ⊢
          have hb5 := block_quiet (o' := .deferred none) hb4 hk4 rfl
          have hr5 := rowsR_quiet (o' := .deferred none) hr4 hk4 rfl
          have hB5 := hB4.grown (grownBy_putObj' W4 D (.deferred none)) hB4.size (fun k e => by cases e; have := HBW.out.size; omega)
          have y0 := cell_of (j := 0) hb5 rfl
          have y1 := cell_of (j := 1) hb5 rfl
          have y2 := cell_of (j := 2) hb5 rfl
          refine ⟨by simp, .inl ⟨_, _, rfl, run_takeDeferred hk4, ?_⟩⟩
          refine ⟨.tuple #[.agg #[.int .i64 d.sectors.length, .slice rA (recs d.sectors).length rc, .int .i64 (recs d.sectors).length], .int .i64 0], by simp [results, Try.results12, go_sem, y0, y1, y2], RetLogE.mk ⟨_, rfl, ?_⟩ hB5 HS.out⟩
          exact hr5.mat (fun b hb => by have := HBW.out.size; omega) (fun b _ hb => by have := HBW.out.size; omega)
      · have hp0 : (0 : Int) < (d.pending.length : Int) := by have : d.pending.length ≠ 0 := fun e => hp (List.eq_nil_of_length_eq_zero e); omega
        have HS := Lib.hid (show openL d = (zeroL, 1) by simp [openL, hok, hst, hp])
        clear hok hst hp
        gi_wp2_with fail
        refine ⟨.tuple #[.agg #[.int .i64 0, .slice none 0 0, .int .i64 0], .int .i64 1], by simp [results, Try.results12, go_sem, r0, r1, r2], RetLogE.mk IsLog.zero ?_ HS.out⟩
        refine Below.setCell (Below.setCell (Below.setCell HF.out ?_ _) ?_ _) ?_ _ <;> simp
    · rw [hst] at c3
      have HS := Lib.hid (show openL d = (zeroL, 340) by simp [openL, hok, hst])
      clear hok hst
      gi_wp2_with fail
      refine ⟨.tuple #[.agg #[.int .i64 0, .slice none 0 0, .int .i64 0], .int .i64 340], by simp [results, Try.results12, go_sem, r0, r1, r2], RetLogE.mk IsLog.zero ?_ HS.out⟩
      refine Below.setCell (Below.setCell (Below.setCell HF.out ?_ _) ?_ _) ?_ _ <;> simp
  · have hok' : okB d = false := by simpa using hok
    rw [chk_not hok']
    have HS := Lib.hid (show openL d = (zeroL, 340) by simp [openL, hok'])
    clear hok hok'
    gi_wp2_with fail
    refine ⟨.tuple #[.agg #[.int .i64 0, .slice none 0 0, .int .i64 0], .int .i64 340], by simp [results, Try.results12, go_sem, r0, r1, r2], RetLogE.mk IsLog.zero ?_ HS.out⟩
    refine Below.setCell (Below.setCell (Below.setCell HF.out ?_ _) ?_ _) ?_ _ <;> simp
end Go.Proofs.Ytocjhepiooljpaa
