/- The four kinds of verdicts; a map of numbers to functions; Check. -/
import Derived.Test.YthlnfjbedehjdaaC9
import Derived.Maps.OwnOps
namespace Go.Proofs.Ythlnfjbedehjdaa
open Go.RowKit Go.Deep Go.Shelf

section
variable {P : Program} {kt et t : TypeId} {q : IntKind} {W : World} {b c : Nat} {es : Array MapEntry}
theorem run_findKeyF (hk : P.underlying kt = some (.int q)) (key : Int) (r : Option (Nat × Value)) (hf : Instr.findNow (.int q) (.int q key) es.toList 0 = some r) : (Instr.findKey kt (.int q key) es.toList).run P W = .ok r W := by
  unfold Instr.findKey
  simp [run_underlying hk, hf]
theorem run_checkKeyF (hk : P.underlying kt = some (.int q)) (e : Bool) (key : Int) : (Instr.checkKey e 10000 kt (.int q key)).run P W = .ok () W := by
  unfold Instr.checkKey
  simp [run_underlying hk]
/-- an entry is laid that was not there -/
theorem wpList_insF {ops : Array Oper} {rest : List Oper} {o : Oper} {a : Act} {Q : Exit → Act → World → Prop} (hg : o.guard = none) (m x v : Operand) (hop : o.op = Op.insert t m x v) (ht : P.underlying t = some (.map kt et)) (hk : P.underlying kt = some (.int q))
    (hm : a.eval m = .map (some b)) (key : Int) (hx : a.eval x = .int q key) (hb : W.heap[b]? = some (.map es c)) (hf : Instr.findNow (.int q) (.int q key) es.toList 0 = some none)
    (hK : ∀ w', w'.heap[b]? = some (.map (es.push { key := .int q key, val := a.eval v, born := c }) (c + 1)) → (∀ k, k ≠ b → w'.heap[k]? = W.heap[k]?) → w'.heap.size = W.heap.size → (∀ n, n ≤ b → Below n W w') → wpList P ops Q rest (a.put o.dst undef) w') : wpList P ops Q (o :: rest) a W := by
  refine wpList_plain hg fun K hK' => ?_
  have hrun : (Instr.mapUpdate t (.map (some b)) (.int q key) (a.eval v)).run P W = .ok () (W.putObj b (.map (es.push { key := .int q key, val := a.eval v, born := c }) (c + 1))) := by
    simp [Instr.mapUpdate, run_underlying ht, MapKept.run_getObj_map hb, run_checkKeyF hk, run_findKeyF hk key none hf, MapKept.run_setObj_map _ hb, Result.andThen, World.putObj]
  unfold Oper.wp
  simp [execOp, hop, hm, hx, hrun, Result.andThen]
  exact hK' _ _ (hK _ (World.putObj_heap_same (lt_heap hb)) (fun k hk => World.putObj_heap_other hk) (by simp) (fun n hn => (Below.refl n W).grown (grownBy_putObj' W b _) (Nat.le_trans hn (Nat.le_of_lt (lt_heap hb))) (fun k e => by cases e; exact hn)))
def lookV : Option (Nat × Value) → Value
  | some p => p.2
  | none => .nilFunc
/-- a look-up with 'ok' -/
theorem wpList_lookF {ops : Array Oper} {rest : List Oper} {o : Oper} {a : Act} {Q : Exit → Act → World → Prop} (hg : o.guard = none) (m x : Operand) (hop : o.op = Op.lookup t m x true) (ht : P.underlying t = some (.map kt et)) (hk : P.underlying kt = some (.int q))
    (hz : (zeroValue et).run P W = .ok .nilFunc W) (hm : a.eval m = .map (some b)) (key : Int) (hx : a.eval x = .int q key) (hb : W.heap[b]? = some (.map es c)) (r : Option (Nat × Value)) (hf : Instr.findNow (.int q) (.int q key) es.toList 0 = some r)
    (h : wpList P ops Q rest (a.put o.dst (.tuple #[lookV r, .bool r.isSome])) W) : wpList P ops Q (o :: rest) a W := by
  refine wpList_plain hg fun K hK' => ?_
  have hrun : (Instr.lookup t (.map (some b)) (.int q key) true).run P W = .ok (.tuple #[lookV r, .bool r.isSome]) W := by
    cases r with
    | none => simp [Instr.lookup, run_underlying ht, MapKept.run_getObj_map hb, run_checkKeyF hk, run_findKeyF hk key none hf, hz, Result.andThen, lookV]
    | some p => simp [Instr.lookup, run_underlying ht, MapKept.run_getObj_map hb, run_checkKeyF hk, run_findKeyF hk key (some p) hf, Result.andThen, lookV]
  unfold Oper.wp
  simp [execOp, hop, hm, hx, hrun, Result.andThen]
  exact hK' _ _ h
end
def openB (q : RaceD) (x : VerD) : Bool := decide (x.cuts.length = 0) && (decide (reachedR q x.reached = 0) && decide (missedR q x.missed = 0))
def unknownB (q : RaceD) (x : VerD) : Bool := decide (x.reached.length + x.missed.length + x.cuts.length = 0) && (!halvesB q && !decide (q.opn.length ≤ 8))
def kindB (q : RaceD) (x : VerD) : Bool := if x.kind = 1 then shownB q true x else if x.kind = 2 then shownB q false x else if x.kind = 3 then openB q x else if x.kind = 4 then unknownB q x else false
/-- what Check answers -/
def checkR (q : RaceD) (x : VerD) : Int := if validB q then (if kindB q x then 0 else 290) else 280
theorem Try.zeroFuncV (W : World) : (zeroValue 32).run Try.prog W = .ok .nilFunc W := by kernel_rfl
set_option maxRecDepth 20000 in
theorem certainW_any (w : World) (M M' : Nat → Prop) (v u : Value) (q : RaceD) (x : VerD) (h : IsRace w M v q) (h' : IsVer w M' u x) (hv : ValidR q) (h6 : q.clubs.length ≤ 6) (hf : FewV x) : Calls Try.prog 33 #[v, u] w fun e w' => e = .returned (.bool (shownB q true x)) ∧ Below w.heap.size w w' := by
  have CS := fun (W : World) (hB : Below w.heap.size w W) => Lib.hid (shown_any W M M' _ _ q true x (h.below hB) (h'.below hB) hv h6 hf)
  obtain ⟨cA, cc, pA, pc, oA, oc, rfl, -⟩ := h.parts
  obtain ⟨rA, rc, mA, mc, kA, kc, rfl, -⟩ := h'.parts
  clear h h' hv h6 hf
  go_enter Try.func33, Try.ntmps33
  go_wp2_with fail
  refine nameW fun W1 hW1 => ?_
  have HB1 := Lib.hid (show Below w.heap.size w W1 by rw [hW1.out]; exact ((Below.refl _ _).alloc (Nat.le_refl _) _).alloc (by simp) _)
  clear hW1
  refine (CS _ HB1.out).out.mono ?_
  rintro e W2 ⟨rfl, hb⟩
  have HB2 := Lib.hid (HB1.out.trans (hb.mono HB1.out.size))
  clear hb
  go_wp2_with fail
  go_ret
  exact ⟨rfl, HB2.out⟩
set_option maxRecDepth 20000 in
theorem outW_any (w : World) (M M' : Nat → Prop) (v u : Value) (q : RaceD) (x : VerD) (h : IsRace w M v q) (h' : IsVer w M' u x) (hv : ValidR q) (h6 : q.clubs.length ≤ 6) (hf : FewV x) : Calls Try.prog 34 #[v, u] w fun e w' => e = .returned (.bool (shownB q false x)) ∧ Below w.heap.size w w' := by
  have CS := fun (W : World) (hB : Below w.heap.size w W) => Lib.hid (shown_any W M M' _ _ q false x (h.below hB) (h'.below hB) hv h6 hf)
  obtain ⟨cA, cc, pA, pc, oA, oc, rfl, -⟩ := h.parts
  obtain ⟨rA, rc, mA, mc, kA, kc, rfl, -⟩ := h'.parts
  clear h h' hv h6 hf
  go_enter Try.func34, Try.ntmps34
  go_wp2_with fail
  refine nameW fun W1 hW1 => ?_
  have HB1 := Lib.hid (show Below w.heap.size w W1 by rw [hW1.out]; exact ((Below.refl _ _).alloc (Nat.le_refl _) _).alloc (by simp) _)
  clear hW1
  refine (CS _ HB1.out).out.mono ?_
  rintro e W2 ⟨rfl, hb⟩
  have HB2 := Lib.hid (HB1.out.trans (hb.mono HB1.out.size))
  clear hb
  go_wp2_with fail
  go_ret
  exact ⟨rfl, HB2.out⟩
set_option maxRecDepth 20000 in
set_option maxHeartbeats 1000000 in
theorem openW_any (w : World) (M M' : Nat → Prop) (v u : Value) (q : RaceD) (x : VerD) (h : IsRace w M v q) (h' : IsVer w M' u x) (hf : FewV x) : Calls Try.prog 35 #[v, u] w fun e w' => e = .returned (.bool (openB q x)) ∧ Below w.heap.size w w' := by
  obtain ⟨cA, cc, pA, pc, oA, oc, rfl, -⟩ := h.parts
  obtain ⟨rA, rc, mA, mc, kA, kc, rfl, hr, hm, -⟩ := h'.parts
  have CR := fun (W : World) (hB : Below w.heap.size w W) => Lib.hid (reached_any W M M' _ _ q x.reached (h.below hB) (IsSl.below hr hB) (by have := hf.r; omega))
  have CM := fun (W : World) (hB : Below w.heap.size w W) => Lib.hid (missed_any W M M' _ _ q x.missed (h.below hB) (IsSl.below hm hB) (by have := hf.m; omega))
  clear h h' hf hr hm
  obtain ⟨z, hz⟩ : ∃ z, z = openB q x := ⟨_, rfl⟩
  obtain ⟨r, hr⟩ : ∃ r, r = reachedR q x.reached := ⟨_, rfl⟩
  obtain ⟨m, hm⟩ : ∃ m, m = missedR q x.missed := ⟨_, rfl⟩
  have HZ := Lib.hid (show z = (decide (x.cuts.length = 0) && (decide (r = 0) && decide (m = 0))) by rw [hz, hr, hm]; rfl)
  rw [← hz]
  rw [← hr] at CR
  rw [← hm] at CM
  clear hz hr hm
  go_enter Try.func35, Try.ntmps35
  by_cases hc : x.cuts.length = 0
  case neg =>
    have d0 : ((x.cuts.length : Int) == 0) = false := by rw [beq_eq_false_iff_ne]; omega
    have d1 : (x.cuts.length == 0) = false := by rw [beq_eq_false_iff_ne]; omega
    have HQ := Lib.hid (show z = false by rw [HZ.out, decide_eq_false hc]; rfl)
    clear hc
    go_wp2_with fail
    go_ret
    exact ⟨ret_bool HQ.out.symm, ((Below.refl _ _).alloc (Nat.le_refl _) _).alloc (by simp) _⟩
  have d0 : ((x.cuts.length : Int) == 0) = true := by rw [beq_iff_eq]; omega
  have d1 : (x.cuts.length == 0) = true := by rw [beq_iff_eq]; omega
  have HC := Lib.hid hc
  clear hc
  go_wp2_with fail
  refine nameW fun W1 hW1 => ?_
  have hb1 : Below w.heap.size w W1 := by rw [hW1.out]; exact ((Below.refl _ _).alloc (Nat.le_refl _) _).alloc (by simp) _
  have k0 : W1.heap[w.heap.size]? = some (.cells #[.int .i64 q.win, .int .i64 q.draw, .slice cA q.clubs.length cc, .slice pA q.points.length pc, .slice oA q.opn.length oc, .int .i64 q.club, .int .i64 q.place] 55 (0, 0)) := by rw [hW1.out, heap_alloc_if, if_neg (by simp)]; exact heap_alloc_new _ _
  have k1 : W1.heap[w.heap.size + 1]? = some (.cells #[.int .i64 x.kind, .slice rA x.reached.length rc, .slice mA x.missed.length mc, .slice kA x.cuts.length kc] 35 (0, 0)) := by rw [hW1.out, heap_alloc_if, if_pos (by simp)]
  obtain ⟨Bv, hBv⟩ : ∃ Bv, Bv = w.heap.size + 1 := ⟨_, rfl⟩
  rw [← hBv] at k1 ⊢
  have K0 := Lib.hid k0
  have K1 := Lib.hid k1
  have HB1 := Lib.hid hb1
  clear hW1 hb1 k0 k1 hBv
  refine (CR _ HB1.out).out.mono ?_
  rintro e W2 ⟨rfl, hb⟩
  have HB2 := Lib.hid (HB1.out.trans (hb.mono HB1.out.size))
  replace K0 := Lib.hid ((hb.block _ (lt_heap K0.out)).trans K0.out)
  replace K1 := Lib.hid ((hb.block _ (lt_heap K1.out)).trans K1.out)
  clear hb
  by_cases h1 : r = 0
  case neg =>
    have d2 : (r == 0) = false := by rw [beq_eq_false_iff_ne]; exact h1
    have HQ := Lib.hid (show z = false by rw [HZ.out, decide_eq_false h1, Bool.false_and, Bool.and_false])
    clear h1
    go_wp2_with fail
    go_ret
    exact ⟨ret_bool HQ.out.symm, HB2.out⟩
  have d2 : (r == 0) = true := by rw [beq_iff_eq]; exact h1
  have H1 := Lib.hid h1
  clear h1
  have e0 := cell_of (j := 0) K0.out rfl
  have e1 := cell_of (j := 1) K0.out rfl
  have e2 := cell_of (j := 2) K0.out rfl
  have e3 := cell_of (j := 3) K0.out rfl
  have e4 := cell_of (j := 4) K0.out rfl
  have e5 := cell_of (j := 5) K0.out rfl
  have e6 := cell_of (j := 6) K0.out rfl
  have v0 := cell_of (j := 0) K1.out rfl
  have v1 := cell_of (j := 1) K1.out rfl
  have v2 := cell_of (j := 2) K1.out rfl
  have v3 := cell_of (j := 3) K1.out rfl
  go_wp2_with fail
  refine (CM _ HB2.out).out.mono ?_
  rintro e W3 ⟨rfl, hb⟩
  have HB3 := Lib.hid (HB2.out.trans (hb.mono HB2.out.size))
  clear hb
  clear e0 e1 e2 e3 e4 e5 e6 v0 v1 v2 v3
  by_cases h2 : m = 0
  · have d3 : (m == 0) = true := by rw [beq_iff_eq]; exact h2
    have HQ := Lib.hid (show z = true by rw [HZ.out, decide_eq_true HC.out, decide_eq_true H1.out, decide_eq_true h2]; rfl)
    clear h2
    go_wp2_with fail
    go_ret
    exact ⟨ret_bool HQ.out.symm, HB3.out⟩
  · have d3 : (m == 0) = false := by rw [beq_eq_false_iff_ne]; exact h2
    have HQ := Lib.hid (show z = false by rw [HZ.out, decide_eq_false h2, Bool.and_false, Bool.and_false])
    clear h2
    go_wp2_with fail
    go_ret
    exact ⟨ret_bool HQ.out.symm, HB3.out⟩
set_option maxRecDepth 20000 in
set_option maxHeartbeats 1000000 in
theorem unknownW_any (w : World) (M M' : Nat → Prop) (v u : Value) (q : RaceD) (x : VerD) (h : IsRace w M v q) (h' : IsVer w M' u x) (hv : ValidR q) (h6 : q.clubs.length ≤ 6) (hf : FewV x) : Calls Try.prog 36 #[v, u] w fun e w' => e = .returned (.bool (unknownB q x)) ∧ Below w.heap.size w w' := by
  have CB := fun (W : World) (hB : Below w.heap.size w W) => Lib.hid (byFlow_any W M _ q (h.below hB) hv.size h6)
  have CSr := fun (W : World) (hB : Below w.heap.size w W) => Lib.hid (bySearch_any W M _ q (h.below hB) (by have := hv.size.opn; omega))
  obtain ⟨cA, cc, pA, pc, oA, oc, rfl, -⟩ := h.parts
  obtain ⟨rA, rc, mA, mc, kA, kc, rfl, -⟩ := h'.parts
  have hf1 := hf.r
  have hf2 := hf.m
  have hf3 := hf.c
  clear h h' hf hv h6
  obtain ⟨z, hz⟩ : ∃ z, z = unknownB q x := ⟨_, rfl⟩
  obtain ⟨hh, hhh⟩ : ∃ hh, hh = halvesB q := ⟨_, rfl⟩
  obtain ⟨s8, hs8⟩ : ∃ s8, s8 = decide (q.opn.length ≤ 8) := ⟨_, rfl⟩
  have HZ := Lib.hid (show z = (decide (x.reached.length + x.missed.length + x.cuts.length = 0) && (!hh && !s8)) by rw [hz, hhh, hs8]; rfl)
  rw [← hz]
  rw [← hhh] at CB
  rw [← hs8] at CSr
  clear hz hhh hs8
  obtain ⟨nr, hnr⟩ : ∃ nr, nr = x.reached.length := ⟨_, rfl⟩
  obtain ⟨nm, hnm⟩ : ∃ nm, nm = x.missed.length := ⟨_, rfl⟩
  obtain ⟨nc, hnc⟩ : ∃ nc, nc = x.cuts.length := ⟨_, rfl⟩
  rw [← hnr, ← hnm, ← hnc] at HZ ⊢
  rw [← hnr] at hf1
  rw [← hnm] at hf2
  rw [← hnc] at hf3
  clear hnr hnm hnc
  have hw1 : IntKind.i64.wrap ((nr : Int) + (nm : Int)) = (nr : Int) + (nm : Int) := IntWalk.i64_in _ (by omega)
  have hw2 : IntKind.i64.wrap ((nr : Int) + (nm : Int) + (nc : Int)) = (nr : Int) + (nm : Int) + (nc : Int) := IntWalk.i64_in _ (by omega)
  go_enter Try.func36, Try.ntmps36
  by_cases hc : nr + nm + nc = 0
  case neg =>
    have d0 : (((nr : Int) + (nm : Int) + (nc : Int)) == 0) = false := by rw [beq_eq_false_iff_ne]; omega
    have HQ := Lib.hid (show z = false by rw [HZ.out, decide_eq_false hc]; rfl)
    clear hc
    go_wp2_with fail
    go_ret
    exact ⟨ret_bool HQ.out.symm, ((Below.refl _ _).alloc (Nat.le_refl _) _).alloc (by simp) _⟩
  have HC := Lib.hid hc
  obtain rfl : nr = 0 := by omega
  obtain rfl : nm = 0 := by omega
  obtain rfl : nc = 0 := by omega
  clear hc hw1 hw2
  go_wp2_with fail
  refine nameW fun W1 hW1 => ?_
  have hb1 : Below w.heap.size w W1 := by rw [hW1.out]; exact ((Below.refl _ _).alloc (Nat.le_refl _) _).alloc (by simp) _
  have k0 : W1.heap[w.heap.size]? = some (.cells #[.int .i64 q.win, .int .i64 q.draw, .slice cA q.clubs.length cc, .slice pA q.points.length pc, .slice oA q.opn.length oc, .int .i64 q.club, .int .i64 q.place] 55 (0, 0)) := by rw [hW1.out, heap_alloc_if, if_neg (by simp)]; exact heap_alloc_new _ _
  have k1 : W1.heap[w.heap.size + 1]? = some (.cells #[.int .i64 x.kind, .slice rA 0 rc, .slice mA 0 mc, .slice kA 0 kc] 35 (0, 0)) := by rw [hW1.out, heap_alloc_if, if_pos (by simp)]
  obtain ⟨Bv, hBv⟩ : ∃ Bv, Bv = w.heap.size + 1 := ⟨_, rfl⟩
  rw [← hBv] at k1 ⊢
  have K0 := Lib.hid k0
  have K1 := Lib.hid k1
  have HB1 := Lib.hid hb1
  clear hW1 hb1 k0 k1 hBv
  refine (CB _ HB1.out).out.mono ?_
  rintro e W2 ⟨rfl, hb⟩
  have HB2 := Lib.hid (HB1.out.trans (hb.mono HB1.out.size))
  replace K0 := Lib.hid ((hb.block _ (lt_heap K0.out)).trans K0.out)
  replace K1 := Lib.hid ((hb.block _ (lt_heap K1.out)).trans K1.out)
  clear hb
  cases hh
  case true =>
    have HQ := Lib.hid (show z = false by rw [HZ.out]; simp)
    go_wp2_with fail
    go_ret
    exact ⟨ret_bool HQ.out.symm, HB2.out⟩
  have e0 := cell_of (j := 0) K0.out rfl
  have e1 := cell_of (j := 1) K0.out rfl
  have e2 := cell_of (j := 2) K0.out rfl
  have e3 := cell_of (j := 3) K0.out rfl
  have e4 := cell_of (j := 4) K0.out rfl
  have e5 := cell_of (j := 5) K0.out rfl
  have e6 := cell_of (j := 6) K0.out rfl
  have v0 := cell_of (j := 0) K1.out rfl
  have v1 := cell_of (j := 1) K1.out rfl
  have v2 := cell_of (j := 2) K1.out rfl
  have v3 := cell_of (j := 3) K1.out rfl
  go_wp2_with fail
  refine (CSr _ HB2.out).out.mono ?_
  rintro e W3 ⟨rfl, hb⟩
  have HB3 := Lib.hid (HB2.out.trans (hb.mono HB2.out.size))
  clear hb
  clear e0 e1 e2 e3 e4 e5 e6 v0 v1 v2 v3
  have HQ := Lib.hid (show z = !s8 by rw [HZ.out]; simp)
  go_wp2_with fail
  go_ret
  exact ⟨ret_bool HQ.out.symm, HB3.out⟩
set_option maxRecDepth 20000 in
set_option maxHeartbeats 4000000 in
theorem check29_any (w : World) (M M' : Nat → Prop) (v u : Value) (q : RaceD) (x : VerD) (h : IsRace w M v q) (h' : IsVer w M' u x) (h6 : q.clubs.length ≤ 6) (hf : FewV x) : Calls Try.prog 19 #[v, u] w (RetE (checkR q x) w) := by
  obtain ⟨cA, cc, pA, pc, oA, oc, rfl, -⟩ := h.parts
  obtain ⟨rA, rc, mA, mc, kA, kc, rfl, -⟩ := h'.parts
  have HR := Lib.hid h
  have HU := Lib.hid h'
  have HF := Lib.hid hf
  have H6 := Lib.hid h6
  obtain ⟨z, hz⟩ : ∃ z, z = checkR q x := ⟨_, rfl⟩
  have HZ := Lib.hid hz
  rw [← hz]
  clear h h' hf h6 hz
  go_enter Try.func19, Try.ntmps19
  go_wp2_with fail
  refine nameW fun W1 hW1 => ?_
  have hb1 : Below w.heap.size w W1 := by rw [hW1.out]; exact ((Below.refl _ _).alloc (Nat.le_refl _) _).alloc (by simp) _
  have k0 : W1.heap[w.heap.size]? = some (.cells #[.int .i64 q.win, .int .i64 q.draw, .slice cA q.clubs.length cc, .slice pA q.points.length pc, .slice oA q.opn.length oc, .int .i64 q.club, .int .i64 q.place] 25 (0, 0)) := by rw [hW1.out, heap_alloc_if, if_neg (by simp)]; exact heap_alloc_new _ _
  have k1 : W1.heap[w.heap.size + 1]? = some (.cells #[.int .i64 x.kind, .slice rA x.reached.length rc, .slice mA x.missed.length mc, .slice kA x.cuts.length kc] 35 (0, 0)) := by rw [hW1.out, heap_alloc_if, if_pos (by simp)]
  obtain ⟨Bv, hBv⟩ : ∃ Bv, Bv = w.heap.size + 1 := ⟨_, rfl⟩
  rw [← hBv] at k1 ⊢
  have K0 := Lib.hid k0
  have K1 := Lib.hid k1
  have HB1 := Lib.hid hb1
  clear hW1 hb1 k0 k1 hBv
  refine (check_any W1 M _ q (HR.out.below HB1.out)).mono ?_
  rintro e W2 ⟨rfl, hb⟩
  have HB2 := Lib.hid (HB1.out.trans (hb.mono HB1.out.size))
  replace K1 := Lib.hid ((hb.block _ (lt_heap K1.out)).trans K1.out)
  clear hb
  by_cases hv : validB q = true
  case neg =>
    have HQ := Lib.hid (show z = 280 by rw [HZ.out]; unfold checkR; rw [if_neg hv])
    rw [show validB q = false by simpa using hv, show (if false = true then (.agg #[.int .i64 q.win, .int .i64 q.draw, .slice cA q.clubs.length cc, .slice pA q.points.length pc, .slice oA q.opn.length oc, .int .i64 q.club, .int .i64 q.place] : Value) else zeroRV) = .agg #[.int .i64 0, .int .i64 0, .slice none 0 0, .slice none 0 0, .slice none 0 0, .int .i64 0, .int .i64 0] from rfl]
    clear hv
    go_wp2_with fail
    go_ret
    exact ⟨ret_int HQ.out.symm, HB2.out.alloc HB2.out.size _⟩
  have HV := Lib.hid (validB_iff.1 hv)
  have HZ2 := Lib.hid (show z = if kindB q x then 0 else 290 by rw [HZ.out]; unfold checkR; rw [if_pos hv])
  rw [hv, show (if true = true then (.agg #[.int .i64 q.win, .int .i64 q.draw, .slice cA q.clubs.length cc, .slice pA q.points.length pc, .slice oA q.opn.length oc, .int .i64 q.club, .int .i64 q.place] : Value) else zeroRV) = .agg #[.int .i64 q.win, .int .i64 q.draw, .slice cA q.clubs.length cc, .slice pA q.points.length pc, .slice oA q.opn.length oc, .int .i64 q.club, .int .i64 q.place] from rfl]
  clear hv
  go_upto_region 4 with fail
  refine nameC fun W3 hW3 => ?_
  have hb3 : Below W2.heap.size W2 W3 := by rw [hW3.out]; exact (Below.refl _ _).alloc (Nat.le_refl _) _
  have k5 : W3.heap[W2.heap.size]? = some (.cells #[.int .i64 q.win, .int .i64 q.draw, .slice cA q.clubs.length cc, .slice pA q.points.length pc, .slice oA q.opn.length oc, .int .i64 q.club, .int .i64 q.place] 55 (0, 0)) := by rw [hW3.out]; exact heap_alloc_new _ _
  obtain ⟨b5, hb5⟩ : ∃ b5, b5 = W2.heap.size := ⟨_, rfl⟩
  rw [← hb5] at k5 ⊢
  have HB3 := Lib.hid (HB2.out.trans (hb3.mono HB2.out.size))
  replace K1 := Lib.hid ((hb3.block _ (lt_heap K1.out)).trans K1.out)
  have hl5 := lt_heap k5
  have hl1 := lt_heap K1.out
  have HC := Lib.hid (show ∀ w' : World, (∀ k, k < W3.heap.size → w'.heap[k]? = W3.heap[k]?) → (w'.cell? ⟨b5, 0, none⟩ = some (.int .i64 q.win) ∧ w'.cell? ⟨b5, 1, none⟩ = some (.int .i64 q.draw) ∧ w'.cell? ⟨b5, 2, none⟩ = some (.slice cA q.clubs.length cc) ∧ w'.cell? ⟨b5, 3, none⟩ = some (.slice pA q.points.length pc) ∧ w'.cell? ⟨b5, 4, none⟩ = some (.slice oA q.opn.length oc) ∧ w'.cell? ⟨b5, 5, none⟩ = some (.int .i64 q.club) ∧ w'.cell? ⟨b5, 6, none⟩ = some (.int .i64 q.place)) from fun w' h => by
    have e0 := (h _ hl5).trans k5
    exact ⟨cell_of e0 rfl, cell_of e0 rfl, cell_of e0 rfl, cell_of e0 rfl, cell_of e0 rfl, cell_of e0 rfl, cell_of e0 rfl⟩)
  clear hW3 hb3 k5 hb5
  obtain ⟨e0, e1, e2, e3, e4, e5, e6⟩ := HC.out W3 (fun _ _ => rfl)
  have hmk : ∀ W, (Instr.makeMap 63 none).run Try.prog W = .ok (.map (some W.heap.size)) (W.alloc (.map #[] 0)) := fun W => rfl
  go_upto_region 5 with (first | (refine wpList_insF rfl (.tmp 17) (.const (.int .i64 1)) (.tmp 19) rfl Try.underlying63 Try.underlying3 rfl 1 rfl (heap_alloc_new _ _) rfl ?_; intro w1 hm1 hk1 hz1 hB1; have hs1 : ∀ k, k < W3.heap.size → w1.heap[k]? = W3.heap[k]? := fun k hk => (hk1 k (by omega)).trans (by rw [heap_alloc_if, if_neg (by omega)]); have hl1 : w1.heap.size = W3.heap.size + 1 := (by rw [hz1]; simp); have hF1 : Below W3.heap.size W3 w1 := ((Below.refl _ _).alloc (Nat.le_refl _) _).trans (hB1 _ (Nat.le_refl _)); clear e0 e1 e2 e3 e4 e5 e6; obtain ⟨e0, e1, e2, e3, e4, e5, e6⟩ := HC.out w1 hs1; (repeat (first | simp only [Act.put] | simp only [List.setIfInBounds_toArray] | simp only [List.set_cons_zero] | simp only [List.set_cons_succ]))) | (refine wpList_insF rfl (.tmp 17) (.const (.int .i64 2)) (.tmp 21) rfl Try.underlying63 Try.underlying3 rfl 2 rfl hm1 rfl ?_; intro w2 hm2 hk2 hz2 hB2; have hs2 : ∀ k, k < W3.heap.size → w2.heap[k]? = W3.heap[k]? := fun k hk => (hk2 k (by omega)).trans (hs1 k hk); have hl2 : w2.heap.size = W3.heap.size + 1 := (by rw [hz2, hl1]); have hF2 : Below W3.heap.size W3 w2 := hF1.trans (hB2 _ (Nat.le_refl _)); clear e0 e1 e2 e3 e4 e5 e6; obtain ⟨e0, e1, e2, e3, e4, e5, e6⟩ := HC.out w2 hs2; (repeat (first | simp only [Act.put] | simp only [List.setIfInBounds_toArray] | simp only [List.set_cons_zero] | simp only [List.set_cons_succ]))) | (refine wpList_insF rfl (.tmp 17) (.const (.int .i64 3)) (.tmp 23) rfl Try.underlying63 Try.underlying3 rfl 3 rfl hm2 rfl ?_; intro w3 hm3 hk3 hz3 hB3; have hs3 : ∀ k, k < W3.heap.size → w3.heap[k]? = W3.heap[k]? := fun k hk => (hk3 k (by omega)).trans (hs2 k hk); have hl3 : w3.heap.size = W3.heap.size + 1 := (by rw [hz3, hl2]); have hF3 : Below W3.heap.size W3 w3 := hF2.trans (hB3 _ (Nat.le_refl _)); clear e0 e1 e2 e3 e4 e5 e6; obtain ⟨e0, e1, e2, e3, e4, e5, e6⟩ := HC.out w3 hs3; (repeat (first | simp only [Act.put] | simp only [List.setIfInBounds_toArray] | simp only [List.set_cons_zero] | simp only [List.set_cons_succ]))) | (refine wpList_insF rfl (.tmp 17) (.const (.int .i64 4)) (.tmp 25) rfl Try.underlying63 Try.underlying3 rfl 4 rfl hm3 rfl ?_; intro w4 hm4 hk4 hz4 hB4; have hs4 : ∀ k, k < W3.heap.size → w4.heap[k]? = W3.heap[k]? := fun k hk => (hk4 k (by omega)).trans (hs3 k hk); have hl4 : w4.heap.size = W3.heap.size + 1 := (by rw [hz4, hl3]); have hF4 : Below W3.heap.size W3 w4 := hF3.trans (hB4 _ (Nat.le_refl _)); clear e0 e1 e2 e3 e4 e5 e6; obtain ⟨e0, e1, e2, e3, e4, e5, e6⟩ := HC.out w4 hs4; (repeat (first | simp only [Act.put] | simp only [List.setIfInBounds_toArray] | simp only [List.set_cons_zero] | simp only [List.set_cons_succ]))))
  clear e0 e1 e2 e3 e4 e5 e6 hmk hm1 hm2 hm3 hk1 hk2 hk3 hk4 hz1 hz2 hz3 hz4 hB1 hB2 hB3 hB4 hs1 hs2 hs3 hs4 hl2 hl3 hl4 hF1 hF2 hF3
  replace K1 := Lib.hid ((hF4.block _ (lt_heap K1.out)).trans K1.out)
  have HB4 := Lib.hid (HB3.out.trans (hF4.mono HB3.out.size))
  have HM4 := Lib.hid hm4
  clear hm4 hF4
  obtain ⟨kd, hkd⟩ : ∃ kd, kd = x.kind := ⟨_, rfl⟩
  have HKD := Lib.hid hkd
  rw [← hkd] at K1 ⊢
  clear hkd
  have v0 := cell_of (j := 0) K1.out rfl
  have v1 := cell_of (j := 1) K1.out rfl
  have v2 := cell_of (j := 2) K1.out rfl
  have v3 := cell_of (j := 3) K1.out rfl
  by_cases h1 : kd = 1
  · have HKB := Lib.hid (show kindB q x = shownB q true x by unfold kindB; rw [← HKD.out, h1]; rfl)
    have CK := Lib.hid (certainW_any w4 M M' _ _ q x (HR.out.below HB4.out) (HU.out.below HB4.out) HV.out H6.out HF.out)
    rw [← HKD.out] at CK
    obtain ⟨s, hs⟩ : ∃ s, s = shownB q true x := ⟨_, rfl⟩
    rw [← hs] at HKB CK
    clear hs
    subst h1
    go_upto_region 6 with (refine wpList_lookF rfl (.tmp 28) (.tmp 30) rfl Try.underlying63 Try.underlying3 (Try.zeroFuncV _) rfl 1 rfl HM4.out (some (0, .func (.func 33) #[.agg #[.int .i64 q.win, .int .i64 q.draw, .slice cA q.clubs.length cc, .slice pA q.points.length pc, .slice oA q.opn.length oc, .int .i64 q.club, .int .i64 q.place]] #[])) rfl ?_; (repeat (first | simp only [Act.put] | simp only [List.setIfInBounds_toArray] | simp only [List.set_cons_zero] | simp only [List.set_cons_succ])); simp only [lookV])
    go_wp2_with fail
    refine CK.out.mono ?_
    rintro e w5 ⟨rfl, hb⟩
    have HB5 := Lib.hid (HB4.out.trans (hb.mono HB4.out.size))
    clear hb v0 v1 v2 v3
    cases s
    · have HQ := Lib.hid (show z = 290 by rw [HZ2.out, HKB.out]; rfl)
      go_wp2_with fail
      go_ret
      exact ⟨ret_int HQ.out.symm, HB5.out⟩
    · have HQ := Lib.hid (show z = 0 by rw [HZ2.out, HKB.out]; rfl)
      go_wp2_with fail
      go_ret
      exact ⟨ret_int HQ.out.symm, HB5.out⟩
  by_cases h2 : kd = 2
  · have HKB := Lib.hid (show kindB q x = shownB q false x by unfold kindB; rw [← HKD.out, h2]; rfl)
    have CK := Lib.hid (outW_any w4 M M' _ _ q x (HR.out.below HB4.out) (HU.out.below HB4.out) HV.out H6.out HF.out)
    rw [← HKD.out] at CK
    obtain ⟨s, hs⟩ : ∃ s, s = shownB q false x := ⟨_, rfl⟩
    rw [← hs] at HKB CK
    clear hs
    subst h2
    go_upto_region 6 with (refine wpList_lookF rfl (.tmp 28) (.tmp 30) rfl Try.underlying63 Try.underlying3 (Try.zeroFuncV _) rfl 2 rfl HM4.out (some (1, .func (.func 34) #[.agg #[.int .i64 q.win, .int .i64 q.draw, .slice cA q.clubs.length cc, .slice pA q.points.length pc, .slice oA q.opn.length oc, .int .i64 q.club, .int .i64 q.place]] #[])) rfl ?_; (repeat (first | simp only [Act.put] | simp only [List.setIfInBounds_toArray] | simp only [List.set_cons_zero] | simp only [List.set_cons_succ])); simp only [lookV])
    go_wp2_with fail
    refine CK.out.mono ?_
    rintro e w5 ⟨rfl, hb⟩
    have HB5 := Lib.hid (HB4.out.trans (hb.mono HB4.out.size))
    clear hb v0 v1 v2 v3
    cases s
    · have HQ := Lib.hid (show z = 290 by rw [HZ2.out, HKB.out]; rfl)
      go_wp2_with fail
      go_ret
      exact ⟨ret_int HQ.out.symm, HB5.out⟩
    · have HQ := Lib.hid (show z = 0 by rw [HZ2.out, HKB.out]; rfl)
      go_wp2_with fail
      go_ret
      exact ⟨ret_int HQ.out.symm, HB5.out⟩
  by_cases h3 : kd = 3
  · have HKB := Lib.hid (show kindB q x = openB q x by unfold kindB; rw [← HKD.out, h3]; rfl)
    have CK := Lib.hid (openW_any w4 M M' _ _ q x (HR.out.below HB4.out) (HU.out.below HB4.out) HF.out)
    rw [← HKD.out] at CK
    obtain ⟨s, hs⟩ : ∃ s, s = openB q x := ⟨_, rfl⟩
    rw [← hs] at HKB CK
    clear hs
    subst h3
    go_upto_region 6 with (refine wpList_lookF rfl (.tmp 28) (.tmp 30) rfl Try.underlying63 Try.underlying3 (Try.zeroFuncV _) rfl 3 rfl HM4.out (some (2, .func (.func 35) #[.agg #[.int .i64 q.win, .int .i64 q.draw, .slice cA q.clubs.length cc, .slice pA q.points.length pc, .slice oA q.opn.length oc, .int .i64 q.club, .int .i64 q.place]] #[])) rfl ?_; (repeat (first | simp only [Act.put] | simp only [List.setIfInBounds_toArray] | simp only [List.set_cons_zero] | simp only [List.set_cons_succ])); simp only [lookV])
    go_wp2_with fail
    refine CK.out.mono ?_
    rintro e w5 ⟨rfl, hb⟩
    have HB5 := Lib.hid (HB4.out.trans (hb.mono HB4.out.size))
    clear hb v0 v1 v2 v3
    cases s
    · have HQ := Lib.hid (show z = 290 by rw [HZ2.out, HKB.out]; rfl)
      go_wp2_with fail
      go_ret
      exact ⟨ret_int HQ.out.symm, HB5.out⟩
    · have HQ := Lib.hid (show z = 0 by rw [HZ2.out, HKB.out]; rfl)
      go_wp2_with fail
      go_ret
      exact ⟨ret_int HQ.out.symm, HB5.out⟩
  by_cases h4 : kd = 4
  · have HKB := Lib.hid (show kindB q x = unknownB q x by unfold kindB; rw [← HKD.out, h4]; rfl)
    have CK := Lib.hid (unknownW_any w4 M M' _ _ q x (HR.out.below HB4.out) (HU.out.below HB4.out) HV.out H6.out HF.out)
    rw [← HKD.out] at CK
    obtain ⟨s, hs⟩ : ∃ s, s = unknownB q x := ⟨_, rfl⟩
    rw [← hs] at HKB CK
    clear hs
    subst h4
    go_upto_region 6 with (refine wpList_lookF rfl (.tmp 28) (.tmp 30) rfl Try.underlying63 Try.underlying3 (Try.zeroFuncV _) rfl 4 rfl HM4.out (some (3, .func (.func 36) #[.agg #[.int .i64 q.win, .int .i64 q.draw, .slice cA q.clubs.length cc, .slice pA q.points.length pc, .slice oA q.opn.length oc, .int .i64 q.club, .int .i64 q.place]] #[])) rfl ?_; (repeat (first | simp only [Act.put] | simp only [List.setIfInBounds_toArray] | simp only [List.set_cons_zero] | simp only [List.set_cons_succ])); simp only [lookV])
    go_wp2_with fail
    refine CK.out.mono ?_
    rintro e w5 ⟨rfl, hb⟩
    have HB5 := Lib.hid (HB4.out.trans (hb.mono HB4.out.size))
    clear hb v0 v1 v2 v3
    cases s
    · have HQ := Lib.hid (show z = 290 by rw [HZ2.out, HKB.out]; rfl)
      go_wp2_with fail
      go_ret
      exact ⟨ret_int HQ.out.symm, HB5.out⟩
    · have HQ := Lib.hid (show z = 0 by rw [HZ2.out, HKB.out]; rfl)
      go_wp2_with fail
      go_ret
      exact ⟨ret_int HQ.out.symm, HB5.out⟩
  have HKB := Lib.hid (show kindB q x = false by unfold kindB; rw [← HKD.out, if_neg h1, if_neg h2, if_neg h3, if_neg h4])
  have HQ := Lib.hid (show z = 290 by rw [HZ2.out, HKB.out]; rfl)
  have b1 : (kd == 1) = false := by rw [beq_eq_false_iff_ne]; exact h1
  have b2 : (kd == 2) = false := by rw [beq_eq_false_iff_ne]; exact h2
  have b3 : (kd == 3) = false := by rw [beq_eq_false_iff_ne]; exact h3
  have b4 : (kd == 4) = false := by rw [beq_eq_false_iff_ne]; exact h4
  go_upto_region 6 with (refine wpList_lookF rfl (.tmp 28) (.tmp 30) rfl Try.underlying63 Try.underlying3 (Try.zeroFuncV _) rfl kd rfl HM4.out none (by simp [Instr.findNow, Instr.sameNow, b1, b2, b3, b4]) ?_; (repeat (first | simp only [Act.put] | simp only [List.setIfInBounds_toArray] | simp only [List.set_cons_zero] | simp only [List.set_cons_succ])); simp only [lookV])
  go_wp2_with fail
  go_ret
  exact ⟨ret_int HQ.out.symm, HB4.out⟩
end Go.Proofs.Ythlnfjbedehjdaa
