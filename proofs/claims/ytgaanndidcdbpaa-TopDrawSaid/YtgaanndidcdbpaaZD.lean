import Derived.Test.YtgaanndidcdbpaaGen
import Derived.RangeFuncNested
import Derived.RangeFuncBound
import Derived.RangeFuncCalls
import Derived.RangeFuncLeaves
import Derived.RangeFuncBox
import Derived.Shelf.Abstract
import Derived.Shelf.RegionOpen
import Derived.OwnWalkIn
import Derived.TacticsInMore
import Derived.LoopNIn
import Derived.LoopIn
import Derived.Test.YtgaanndidcdbpaaZC
import Derived.Laws.EntriesVeiled
namespace Go.Proofs.Ytgaanndidcdbpaa
open Go.RowKit Go.Shelf

/-- the mark that a range over a function leaves among the deferred calls -/
def mark (D : Nat) : Deferred := { target := .collected D, args := #[] }
/-- marks of ranges over functions that are over, laid from n₀ on -/
def MarksIn (n₀ : Nat) (w : World) (ds : List Deferred) : Prop := ∃ Ds : List Nat, ds = Ds.map mark ∧ Ds.Nodup ∧ ∀ D ∈ Ds, n₀ ≤ D ∧ w.heap[D]? = some (.deferred (some []))
/-- every cell reads as it did -/
def CellsSame (w w' : World) : Prop := ∀ (p : Addr) v, w.cell? p = some v → w'.cell? p = some v
theorem CellsSame.refl (w : World) : CellsSame w w := fun _ _ h => h
theorem CellsSame.trans {a b c : World} (h : CellsSame a b) (k : CellsSame b c) : CellsSame a c := fun p v e => k p v (h p v e)
section
variable {w w' : World} {n₀ : Nat} {ds : List Deferred}
theorem MarksIn.nil : MarksIn n₀ w [] := ⟨[], rfl, List.nodup_nil, fun _ h => absurd h (by simp)⟩
theorem MarksIn.kept (h : MarksIn n₀ w ds) (hk : ∀ D, n₀ ≤ D → w.heap[D]? = some (.deferred (some [])) → w'.heap[D]? = some (.deferred (some []))) : MarksIn n₀ w' ds := by
  obtain ⟨Ds, h1, h2, h3⟩ := h
  exact ⟨Ds, h1, h2, fun D hD => ⟨(h3 D hD).1, hk D (h3 D hD).1 (h3 D hD).2⟩⟩
theorem MarksIn.below {m : Nat} (h : MarksIn n₀ w ds) (hb : Below m w w') (hm : w.heap.size ≤ m) : MarksIn n₀ w' ds := h.kept fun D _ hD => (hb.block D (Nat.lt_of_lt_of_le (lt_heap hD) hm)).trans hD
theorem MarksIn.others (h : MarksIn n₀ w ds) (hk : KeepsOthers w w') : MarksIn n₀ w' ds := h.kept fun D _ hD => hk.same D _ hD rfl
theorem MarksIn.grown {row : Option Nat} (h : MarksIn n₀ w ds) (hg : w.grownBy w' row) (hr : ∀ g o, row = some g → w.heap[g]? = some o → o.isCells = true) : MarksIn n₀ w' ds := h.kept fun D _ hD => (hg.block D (lt_heap hD) (fun e => by have := hr D _ e.symm hD; cases this)).trans hD
theorem MarksIn.cons {D m : Nat} (h : MarksIn n₀ w ds) (hm : w.heap.size ≤ m) (hn : n₀ ≤ m) (hk : ∀ D', n₀ ≤ D' → w.heap[D']? = some (.deferred (some [])) → w'.heap[D']? = some (.deferred (some []))) (hD : m ≤ D) (hD' : w'.heap[D]? = some (.deferred (some []))) :
    MarksIn n₀ w' (mark D :: ds) := by
  obtain ⟨Ds, h1, h2, h3⟩ := h
  refine ⟨D :: Ds, by rw [h1]; rfl, List.nodup_cons.2 ⟨fun hin => ?_, h2⟩, fun D' hin => ?_⟩
  · have := lt_heap (h3 D hin).2
    omega
  · rcases List.mem_cons.1 hin with e | hin
    · rw [e]; exact ⟨by omega, hD'⟩
    · exact ⟨(h3 D' hin).1, hk D' (h3 D' hin).1 (h3 D' hin).2⟩
theorem MarksIn.one {D : Nat} (hn : n₀ ≤ D) (hD : w.heap[D]? = some (.deferred (some []))) : MarksIn n₀ w [{ target := .collected D, args := #[] }] := ⟨[D], rfl, by simp, fun D' h => by rw [List.mem_singleton] at h; rw [h]; exact ⟨hn, hD⟩⟩
theorem CellsSame.put {D : Nat} (hD : w.heap[D]? = some (.deferred (some []))) : CellsSame w (w.putObj D (.deferred none)) := fun _ _ h =>
  cell_kept h (grownBy_putObj' _ D (.deferred none)) (fun r e => by cases e; exact ⟨_, hD, rfl⟩)
theorem leave_marks {P : Program} {F : Fence} {n : Nat} {fn : Func} {tmps : Array Value} {R : Ending → World → Prop} : ∀ (ds : List Deferred) (w : World), MarksIn n₀ w ds → n₀ ≤ w.heap.size →
    (∀ w', CellsSame w w' → Below n₀ w w' → LeavesInM F n P fn tmps R [] .returning w') → LeavesInM F n P fn tmps R ds .returning w
  | [], w, _, _, hb => hb w (CellsSame.refl w) (Below.refl _ _)
  | d :: ds, w, h, hn, hb => by
    obtain ⟨Ds, h1, h2, h3⟩ := h
    cases Ds with
    | nil => cases h1
    | cons D Ds =>
      injection h1 with e1 e2
      have hD := h3 D (by simp)
      have hbl : Below n₀ w (w.putObj D (.deferred none)) := (Below.refl n₀ w).grown (grownBy_putObj' w D (.deferred none)) hn (fun k e => by cases e; exact hD.1)
      refine ⟨by simp, .inl ⟨D, _, by rw [e1]; rfl, run_takeDeferred hD.2, ?_⟩⟩
      refine leave_marks ds _ ?_ (Nat.le_trans hn hbl.size) (fun w' hc hB => hb w' ((CellsSame.put hD.2).trans hc) (hbl.trans hB))
      refine ⟨Ds, e2, (List.nodup_cons.1 h2).2, fun D' hin => ⟨(h3 D' (List.mem_cons_of_mem _ hin)).1, ?_⟩⟩
      rw [World.putObj_heap_other (fun e => (List.nodup_cons.1 h2).1 (by rw [← e]; exact hin))]
      exact (h3 D' (List.mem_cons_of_mem _ hin)).2
end
theorem KeepsOthers.drewN (W : World) (n : Nat) : KeepsOthers W (W.drewN n) := ⟨Nat.le_refl _, fun _ _ h _ => h⟩
/-- the blocks of M are as they were -/
structure KM (M : Nat → Prop) (w w' : World) : Prop where
  size : w.heap.size ≤ w'.heap.size
  block : ∀ k, M k → w'.heap[k]? = w.heap[k]?
section
variable {M : Nat → Prop} {a b c : World}
theorem KM.refl (a : World) : KM M a a := ⟨Nat.le_refl _, fun _ _ => rfl⟩
theorem KM.trans (h : KM M a b) (k : KM M b c) : KM M a c := ⟨Nat.le_trans h.size k.size, fun i hi => (k.block i hi).trans (h.block i hi)⟩
theorem KM.cell (h : KM M a b) {p : Addr} (hp : M p.block) : b.cell? p = a.cell? p := World.cell?_of_block (w := a) (h.block p.block hp)
theorem KM.drewN (h : KM M a b) (n : Nat) : KM M a (b.drewN n) := ⟨h.size, h.block⟩
theorem KM.drew (h : KM M a b) : KM M a b.drew := ⟨h.size, h.block⟩
theorem KM.setCell (h : KM M a b) {g : Nat} (hg : ¬ M g) (j : Nat) (u : Value) : KM M a (b.setCell ⟨g, j, none⟩ u) :=
  h.trans ⟨by simp [World.setCell], fun i hi => Below.heap_setCell _ _ _ _ (fun e => hg (by rw [e] at hi; exact hi))⟩
theorem KM.alloc (h : KM M a b) (hM : ∀ k, M k → k < a.heap.size) (o : Obj) : KM M a (b.alloc o) :=
  h.trans ⟨by simp, fun i hi => Below.heap_alloc _ _ _ (Nat.lt_of_lt_of_le (hM i hi) h.size)⟩
theorem KM.below {n : Nat} (h : KM M a b) (k : Below n b c) (hM : ∀ k, M k → k < n) : KM M a c := h.trans ⟨k.size, fun i hi => k.block i (hM i hi)⟩
theorem km_t (h : KM M a b) (k : KM M b c) : KM M a c := h.trans k
theorem km_b (hM : ∀ k, M k → k < a.heap.size) (W : World) (l : Nat) (o o' : Obj) (hl : a.heap.size ≤ l) (_ : W.heap[l]? = some o) (_ : o.isCells = false) (_ : o.isWalk = false) : KM M W (W.putObj l o') :=
  ⟨by simp, fun i hi => World.putObj_heap_other (fun e => by have := hM i hi; omega)⟩
end
theorem ownFrom_km {β : Type} {B : Nat} {M : Nat → Prop} {w₀ : World} (hM : ∀ k, M k → k < w₀.heap.size) (hB : w₀.heap.size ≤ B) : OwnFrom B (fun (_ : β) W => KM M w₀ W) := fun _ X Y row hs hg hr =>
  hs.trans ⟨hg.size, fun k hk => hg.block k (Nat.lt_of_lt_of_le (hM k hk) hs.size) (fun e => by have := (hr k e.symm).1; have := hM k hk; omega)⟩
/-- what lies in a block of cells is the caller's own -/
theorem ownFrom_cells {β : Type} (B B' : Nat) (o : β → Obj) (hc : ∀ s, (o s).isCells = true) : OwnFrom B (fun s W => W.heap[B']? = some (o s)) := fun s X Y row hs hg hr => by
  refine (hg.block B' (lt_heap hs) (fun e => ?_)).trans hs
  obtain ⟨_, o', ho, hno⟩ := hr B' e.symm
  rw [hs] at ho
  cases ho
  rw [hc] at hno
  cases hno
theorem frozen_of {w : World} {g j : Nat} {cs : Array Value} {t : TypeId} (h : w.heap[g]? = some (.cells cs t (0, 0))) : w.frozen? ⟨g, j, none⟩ = false := by simp [World.frozen?, h]
/-- element j of numbers -/
def nth (xs : List Nat) (j : Nat) : Nat := xs.getD j 0
theorem own_cells {w : World} {base e size n : Nat} {v : Value} {xs : List Value} (h : w.ownsRow base e size v n xs) : ∀ g o, v.ownBlock = some g → w.heap[g]? = some o → o.isCells = true := by
  intro g o hg ho
  rcases h.2 with ⟨rfl, _⟩ | ⟨b, cap, cur, rfl, _, hgb, _⟩
  · simp [Value.ownBlock] at hg
  · simp [Value.ownBlock] at hg
    subst hg
    rw [hgb] at ho
    cases ho
    rfl
theorem own_below {w w' : World} {base e size n m : Nat} {v : Value} {xs : List Value} (h : w.ownsRow base e size v n xs) (hb : Below m w w') (hm : w.heap.size ≤ m) : w'.ownsRow base e size v n xs :=
  ⟨h.1, by
    rcases h.2 with ⟨rfl, hx⟩ | ⟨g, cap, cur, rfl, hg, hgb, rest⟩
    · exact .inl ⟨rfl, hx⟩
    · exact .inr ⟨g, cap, cur, rfl, hg, (hb.block g (Nat.lt_of_lt_of_le (lt_heap hgb) hm)).trans hgb, rest⟩⟩
/-- the indices that have come, q are left: from the end -/
def came (len q : Nat) : List Nat := (List.range' q (len - q)).reverse
theorem came_start (len : Nat) : came len len = [] := by simp [came]
theorem came_succ {len r : Nat} (h : r < len) : came len r = came len (r + 1) ++ [r] := by
  unfold came
  rw [show len - r = (len - (r + 1)) + 1 by omega, List.range'_succ, List.reverse_cons]
theorem came_length {len q : Nat} : (came len q).length = len - q := by simp [came]
theorem IsSl.keepS {w w' : World} {M : Nat → Prop} {sz n : Nat} {v : Value} {f : Nat → Nat → Value} (h : IsSl w M sz v n f) (hk : CellsSame w w') : IsSl w' M sz v n f := by
  obtain ⟨A, c, e, h1, h2, h3⟩ := h
  refine ⟨A, c, e, h1, h2, fun hn => ?_⟩
  obtain ⟨b, off, e, hM, hc⟩ := h3 hn
  exact ⟨b, off, e, hM, fun i j hi hj => hk _ _ (hc i j hi hj)⟩
end Go.Proofs.Ytgaanndidcdbpaa
namespace Go.Proofs.Ytgaanndidcdbpaa
open Go.RowKit Go.Shelf

attribute [local go_sem] Oper.semAt_some

/-- what yield is told of element j -/
def encU (xs : List Nat) (j : Nat) : Array Value := #[.int .i64 (j : Int), .int .u64 ((nth xs j : Nat) : Int)]

set_option maxRecDepth 100000 in
set_option maxHeartbeats 2000000 in
theorem back1_in (F : Fence) (n : Nat) (h51 : F.fn 60) (hro : F.round = none) (hn : 1 ≤ n) (l Bs cap : Nat) (M : Nat → Prop) (A : Option Addr) (xs : List Nat) (hreach : xs.length ≤ 4096) (hBn : M Bs) (J Jx : List Nat → World → Prop)
    (hY : ∀ pre x W, J pre W → pre.length < xs.length → YieldAt F (n - 1) Try.prog l (encU xs x) W fun e W' =>
      (e = .returned (.bool true) ∧ J (pre ++ [x]) W' ∧ KM M W W') ∨ (e = .returned (.bool false) ∧ Jx (pre ++ [x]) W'))
    (W : World) (hBs : W.cell? ⟨Bs, 0, none⟩ = some (.slice A xs.length cap)) (hc : IsU64 W M (.slice A xs.length cap) xs) (h0 : J [] W) :
    CallsIn F n Try.prog 60 #[.func (.yield l) #[] #[], .pointer (some ⟨Bs, 0, none⟩)] W fun e W' => (∃ v, e = .returned v) ∧
      ((∃ ys, ys = came xs.length 0 ∧ J ys W') ∨ (∃ pre, (∃ q, q < xs.length ∧ pre = came xs.length q) ∧ Jx pre W')) := by
  obtain ⟨A', c', e', -, -, hc⟩ := hc
  cases e'
  refine callsIn_of_wp Try.func60 rfl h51 ?_ hro
  simp only [Try.ntmps60, List.size_toArray, List.length_cons, List.length_nil, Nat.reduceAdd, Nat.reduceSub, Array.replicate_succ, Array.replicate_zero, List.push_toArray, List.append_toArray, List.nil_append, List.cons_append]
  gi_wp2
  gi_loopw [3] (fun i wr => ∃ q : Nat, q ≤ xs.length ∧ i = .int .i64 ((q : Int) - 1) ∧ J (came xs.length q) wr ∧ KM M W wr) (fun i _ => ((intOf i) + 1).toNat)
  case atStart => exact ⟨xs.length, Nat.le_refl _, rfl, by rw [came_start]; exact h0, KM.refl _⟩
  case round =>
    obtain ⟨q, hq, he, hJs, hnx⟩ := hrel
    cases q with
    | zero =>
      subst he
      gi_wp2
      go_end0
      exact ⟨⟨_, rfl⟩, .inl ⟨_, rfl, hJs⟩⟩
    | succ r =>
      have he' : u3 = .int .i64 (r : Int) := by rw [he]; congr 1; omega
      clear he
      subst he'
      obtain ⟨b, off, rfl, hbn, hcs⟩ := hc (by omega)
      have hc0 : wr.cell? ⟨b, off + r, none⟩ = some (.int .u64 ((nth xs r : Nat) : Int)) := by
        have h := (hnx.cell (p := ⟨b, off + r * 1 + 0, none⟩) hbn).trans (hcs r 0 (by omega) (by omega))
        rw [Nat.mul_one, Nat.add_zero] at h
        exact h
      have hbs := (hnx.cell (p := ⟨Bs, 0, none⟩) hBn).trans hBs
      obtain ⟨fn, tmps, assign, body, hy, hR⟩ := hY _ r wr hJs (by rw [came_length]; omega)
      simp only [encU] at hy
      obtain ⟨z, hz⟩ : ∃ z, nth xs r = z := ⟨_, rfl⟩
      rw [hz] at hy hc0
      clear hz
      gi_wp2
      refine hR.mono ?_
      rintro e W3 (⟨rfl, hJ3, hk3⟩ | ⟨rfl, hJx3⟩)
      · gi_wp2
        go_roundw
        case rel => exact ⟨r, by omega, rfl, by rw [came_succ (by omega)]; exact hJ3, hnx.trans hk3⟩
        case measure => simp [intOf]
      · gi_wp2
        refine bodyPost_ret (results_none rfl _ _ _) rfl ?_
        exact ⟨⟨_, rfl⟩, .inr ⟨_, ⟨r, by omega, (came_succ (by omega)).symm⟩, hJx3⟩⟩

set_option maxHeartbeats 1000000 in
theorem back_in (F : Fence) (n : Nat) (h31 : F.fn 38) (hro : F.round = none) (a : Option Addr) (len cap : Nat) (w : World) :
    CallsIn F n Try.prog 38 #[.slice a len cap] w fun e w' => e = .returned (.func (.func 60) #[] #[.pointer (some ⟨w.heap.size, 0, none⟩)]) ∧ w' = w.alloc (.cells #[.slice a len cap] 35) := by
  refine callsIn_of_wp Try.func38 rfl h31 ?_ hro
  simp only [Try.ntmps38, List.size_toArray, List.length_cons, List.length_nil, Nat.reduceAdd, Nat.reduceSub, Array.replicate_succ, Array.replicate_zero, List.push_toArray, List.append_toArray, List.nil_append, List.cons_append]
  gi_wp2
  go_ret
  exact ⟨rfl, rfl⟩

theorem back_stops (F : Fence) (n : Nat) (h51 : F.fn 60) (hro : F.round = none) (hn : 1 ≤ n) (Bs cap : Nat) (M : Nat → Prop) (A : Option Addr) (xs : List Nat) (hreach : xs.length ≤ 4096) (hBn : M Bs) (w : World) (hM : ∀ k, M k → k < w.heap.size)
    (hBs : w.cell? ⟨Bs, 0, none⟩ = some (.slice A xs.length cap)) (hc : IsU64 w M (.slice A xs.length cap) xs) :
    SeqStopsK F n Try.prog 60 #[.pointer (some ⟨Bs, 0, none⟩)] (encU xs) (KM M) (fun ys => ys = came xs.length 0) (fun pre => ∃ q, q < xs.length ∧ pre = came xs.length q) xs.length w := fun l J Jx W hW _ _ hY h0 =>
  back1_in F n h51 hro hn l Bs cap M A xs hreach hBn J Jx hY W ((hW.cell (p := ⟨Bs, 0, none⟩) (hM _ hBn)).trans hBs) (IsSl.keep hc fun _ hp _ => hW.cell (hM _ hp)) h0
end Go.Proofs.Ytgaanndidcdbpaa
namespace Go.Proofs.Ytgaanndidcdbpaa
open Go.RowKit Go.Shelf

attribute [local go_sem] Oper.semAt_some

/-- the value after the coefficients of pre -/
def horI (xs : List Nat) (x : Nat) (pre : List Nat) : Nat := pre.foldl (fun y j => (y * x % 1152921504606845789 + nth xs j) % 1152921504606845789) 0
theorem horI_snoc (xs : List Nat) (x : Nat) (pre : List Nat) (j : Nat) : horI xs x (pre ++ [j]) = (horI xs x pre * x % 1152921504606845789 + nth xs j) % 1152921504606845789 := by
  unfold horI; rw [List.foldl_append]; rfl
theorem horI_came (xs : List Nat) (x : Nat) : ∀ d q, q + d = xs.length → horI xs x (came xs.length q) = hor (xs.drop q) x
  | 0, q, h => by
    obtain rfl : q = xs.length := by omega
    rw [came_start, List.drop_length]; rfl
  | d + 1, q, h => by
    have hq : q < xs.length := by omega
    rw [came_succ hq, horI_snoc, horI_came xs x d (q + 1) (by omega), hor_drop hq]
    unfold nth
    rw [List.getD_eq_getElem?_getD, List.getElem?_eq_getElem hq]
    rfl
theorem horI_lt (xs : List Nat) (x : Nat) (pre : List Nat) : horI xs x pre < 1152921504606845789 := by
  rcases List.eq_nil_or_concat pre with rfl | ⟨l, a, rfl⟩
  · exact (by decide : (0 : Nat) < 1152921504606845789)
  · rw [List.concat_eq_append, horI_snoc]; exact Nat.mod_lt _ (by decide)
theorem getD_ltQ {xs : List Nat} (h : ∀ c ∈ xs, c < 1152921504606845789) (j : Nat) : nth xs j < 1152921504606845789 := by
  unfold nth
  rw [List.getD_eq_getElem?_getD]
  rcases Nat.lt_or_ge j xs.length with hj | hj
  · rw [List.getElem?_eq_getElem hj]; exact h _ (List.getElem_mem hj)
  · rw [List.getElem?_eq_none hj]; exact (by decide : (0 : Nat) < 1152921504606845789)

set_option maxRecDepth 100000 in
set_option maxHeartbeats 2000000 in
theorem split_go (w : World) (M : Nat → Prop) (v : Value) (xs : List Nat) (h : IsU64 w M v xs) (n : Nat) (ha : allD coefOk xs = true) (g1 : 1 ≤ n) (g2 : n ≤ 192) :
    Calls Try.prog 16 #[v, .int .i64 n] w (ShsE w (splitD xs n)) := by
  have CA := Lib.hid (all_any asks_coef w M v xs h)
  have H := Lib.hid h
  obtain ⟨A, c, rfl, h1, h2, -⟩ := h
  rw [splitD_yes ha g1 g2]
  have HCO : Hid (∀ c ∈ xs, c < 1152921504606845789) := fun c hc => of_decide_eq_true ((List.all_eq_true.1 (by unfold allD at ha; exact (Bool.and_eq_true _ _ ▸ ha).2)) c hc)
  have HLE : Hid (xs.length ≤ 24) := (by unfold allD lenOk at ha; simp only [Bool.and_eq_true, decide_eq_true_eq] at ha; exact ha.1.2)
  rw [ha] at CA
  clear ha
  have b1 : decide ((n : Int) < 1) = false := by simp; omega
  have b2 : decide ((192 : Int) < (n : Int)) = false := by simp; omega
  refine (callsIn_wide (n := 6)).1 ?_
  refine callsIn_of_wp_marks Try.func16 rfl trivial ?_ rfl
  simp only [Try.ntmps16, List.size_toArray, List.length_cons, List.length_nil, Nat.reduceAdd, Nat.reduceSub, Array.replicate_succ, Array.replicate_zero, List.push_toArray, List.append_toArray, List.nil_append, List.cons_append]
  gi_wp2_with fail
  refine ⟨trivial, callsIn_wide.2 ?_⟩
  refine CA.out.mono ?_
  rintro e w1 ⟨rfl, hb1⟩
  have HB1 := Lib.hid hb1
  clear hb1
  gi_wp2_with fail
  refine wpIn_loop (fun a' w' => ∃ (k : Nat) (v4 u6 u7 u23 u24 u25 u26 u27 u28 u29 u30 u41 u42 u43 u44 u45 : Value) (ds : List Deferred), (k ≤ n ∧ Hid (w'.ownsRow w.heap.size 59 2 v4 k (rowS (shsTo xs k))) ∧ Hid (Below w.heap.size w w') ∧ Hid (MarksIn w.heap.size w' ds)) ∧ a' = { tmps := #[Value.slice A xs.length c, Value.int IntKind.i64 n, undef, undef, v4, Value.int IntKind.i64 0, u6, u7, undef, undef, Value.slice A xs.length c, Value.bool true, Value.bool false, Value.bool false, Value.int IntKind.i64 n, Value.bool false, Value.bool false, Value.bool false, Value.int IntKind.i64 n, Value.bool false, Value.bool false, Value.int IntKind.i64 n, Value.int IntKind.i64 (k : Int), u23, u24, u25, u26, u27, u28, u29, u30, undef, undef, undef, undef, undef, undef, undef, undef, undef, undef, u41, u42, u43, u44, u45, undef], defers := ds }) (fun a' _ => n - (intOf (a'.tmps.getD 22 undef)).toNat) ?start ?round
  case start =>
    exact ⟨0, .slice none 0 0, undef, undef, undef, undef, undef, undef, undef, undef, undef, undef, undef, undef, undef, undef, undef, [], ⟨Nat.zero_le _, Lib.hid (own_nil _ _ _ _), HB1, Lib.hid MarksIn.nil⟩, rfl⟩
  case round =>
    rintro a' wr ⟨k, v4, u6, u7, u23, u24, u25, u26, u27, u28, u29, u30, u41, u42, u43, u44, u45, ds, ⟨hk, HO, HB, HM⟩, rfl⟩
    by_cases hlt : k < n
    · have hlt' : (k : Int) < (n : Int) := by omega
      obtain ⟨K, hK⟩ : ∃ K, K = k + 1 := ⟨_, rfl⟩
      have hw : IntKind.u64.wrap ((k : Int) + 1) = (K : Int) := wn (by omega) (by omega)
      have HK := Lib.hid hK
      clear hK
      gi_wp2_with fail
      refine ⟨trivial, ?_⟩
      refine (back_in _ _ trivial rfl _ _ _ _).mono ?_
      rintro e w3 ⟨rfl, rfl⟩
      gi_wp2_with fail
      obtain ⟨W0, hW0⟩ : ∃ W0, W0 = (wr.alloc (.cells #[.int .u64 (K : Int), .int .u64 0] 59)).alloc (.cells #[.slice A xs.length c] 35) := ⟨_, rfl⟩
      have hz0 : W0.heap.size = wr.heap.size + 2 := by rw [hW0]; simp
      have hB0 : Below wr.heap.size wr W0 := by rw [hW0]; exact ((Below.refl _ _).alloc (Nat.le_refl _) _).alloc (by simp) _
      have k0 : W0.heap[wr.heap.size]? = some (.cells #[.int .u64 (K : Int), .int .u64 0] 59 (0, 0)) := (by rw [hW0]; simp only [heap_alloc_if, World.size_alloc]; repeat (first | rw [if_pos trivial] | rw [if_pos (by omega)] | rw [if_neg (by omega)]))
      have k1 : W0.heap[wr.heap.size + 1]? = some (.cells #[.slice A xs.length c] 35 (0, 0)) := (by rw [hW0]; simp only [heap_alloc_if, World.size_alloc]; repeat (first | rw [if_pos trivial] | rw [if_pos (by omega)] | rw [if_neg (by omega)]))
      rw [← hW0]
      have HW0 := Lib.hid hW0
      clear hW0
      have hK1 : 1 ≤ K ∧ K ≤ 192 := by have := HK.out; omega
      have hKQ : K < 1152921504606845789 := Nat.lt_of_le_of_lt hK1.2 (by decide)
      have hUm : IsU64 W0 (fun b => b < W0.heap.size ∧ b ≠ wr.heap.size) (.slice A xs.length c) xs := by
        have hwr : w.heap.size ≤ wr.heap.size := HB.out.size
        obtain ⟨A', c', e', q1, q2, q3⟩ := H.out
        refine ⟨A', c', e', q1, q2, fun hn => ?_⟩
        obtain ⟨b, off, e, -, hcc⟩ := q3 hn
        have hbw : b < w.heap.size := lt_of_cell (hcc 0 0 hn (by omega))
        refine ⟨b, off, e, ⟨by omega, by omega⟩, fun i j hi hj => ?_⟩
        exact ((HB.out.trans (hB0.mono hwr)).cell (p := ⟨b, _, none⟩) hbw).trans (hcc i j hi hj)
      have HHk := Lib.hid hk
      clear hk
      refine wpIn_rangeFunc_ownF rfl (by omega) (gf := 60) (lb := #[.pointer (some ⟨wr.heap.size + 1, 0, none⟩)]) rfl trivial (enters_of Try.func60 (by kernel_rfl) rfl)
        (back_stops Fence.wide 5 trivial rfl (by decide) (wr.heap.size + 1) c (fun b => b < W0.heap.size ∧ b ≠ wr.heap.size) A xs (by have := HLE.out; omega) ⟨by omega, by omega⟩ W0 (fun k hk => hk.1) (cell_of (j := 0) k1 rfl) hUm)
        km_t (km_b (fun k hk => hk.1)) (Below.refl _ _) (fun _ => rfl)
        (fun pre W => W.heap[wr.heap.size]? = some (.cells #[.int .u64 (K : Int), .int .u64 ((horI xs K pre : Nat) : Int)] 59 (0, 0)) ∧ Below wr.heap.size wr W)
        (fun _ _ _ => False)
        (OwnFrom.and (ownFrom_cells _ _ _ (fun _ => rfl)) (ownFrom_below (Nat.le_refl _) (by omega)))
        (fun _ _ _ _ _ hs _ _ => hs)
        ⟨k0, hB0⟩
        (fun j => { tmps := #[Value.slice A xs.length c, Value.int IntKind.i64 n, undef, undef, v4, Value.int IntKind.i64 0, Value.int IntKind.i64 (k : Int), Value.pointer (some ⟨wr.heap.size, 0, none⟩), undef, Value.int IntKind.u64 ((nth xs j : Nat) : Int), Value.slice A xs.length c, Value.bool true, Value.bool false, Value.bool false, Value.int IntKind.i64 n, Value.bool false, Value.bool false, Value.bool false, Value.int IntKind.i64 n, Value.bool false, Value.bool false, Value.int IntKind.i64 n, Value.int IntKind.i64 (k : Int), Value.bool true, Value.int IntKind.i64 (k : Int), Value.int IntKind.i64 (k : Int), Value.int IntKind.i64 ((k : Int) + 1), Value.int IntKind.u64 (K : Int), Value.agg #[Value.int IntKind.u64 (K : Int), Value.int IntKind.u64 0], Value.slice A xs.length c, Value.func (Fn.func 60) #[] #[Value.pointer (some ⟨wr.heap.size + 1, 0, none⟩)], Value.int IntKind.i64 (j : Int), Value.int IntKind.u64 ((nth xs j : Nat) : Int), undef, undef, undef, undef, undef, undef, undef, undef, u41, u42, u43, u44, u45, undef], defers := [] })
        ?assign ?body ?done ?stop
      case assign =>
        intro l j W K' hK'
        simp only [encU]
        gi_wp2
        exact hK'
      case body =>
        rintro l pre j W ⟨hs, hB⟩ -
        have e0 := cell_of (j := 0) hs rfl
        have e1 := cell_of (j := 1) hs rfl
        have f1 := frozen_of (j := 1) hs
        have hcj := getD_ltQ HCO.out j
        have C1 := fun W => Lib.hid (mul_Q (horI xs K pre) K (horI_lt _ _ _) hKQ W)
        have HS := Lib.hid (horI_snoc xs K pre j)
        obtain ⟨z, hz⟩ : ∃ z, horI xs K pre * K % 1152921504606845789 = z := ⟨_, rfl⟩
        have hzl : z < 1152921504606845789 := by rw [← hz]; exact Nat.mod_lt _ (by decide)
        rw [hz] at C1 HS
        have C2 := fun W => Lib.hid (add_Q z (nth xs j) (by omega) W)
        rw [← HS.out] at C2
        have HSS := Lib.hid hs
        have HBB := Lib.hid hB
        clear hz hzl hcj hs hB
        gi_wp2_with fail
        refine ⟨trivial, ?_⟩
        refine (CallsIn.inRound l (callsIn_wide.2 (C1 _).out)).mono ?_
        rintro e w4 ⟨rfl, n1, rfl⟩
        gi_wp2_with fail
        refine ⟨trivial, ?_⟩
        refine (CallsIn.inRound l (callsIn_wide.2 (C2 _).out)).mono ?_
        rintro e w5 ⟨rfl, n2, rfl⟩
        gi_wp2_with fail
        refine ⟨((KeepsOthers.drewN _ _).trans (KeepsOthers.setCell _ _ _)), ((KM.refl _).drewN _).setCell (by omega) _ _, ?_, (below_drewN HBB.out _).setCell (by dsimp only; omega) _⟩
        rw [heap_set_if, if_pos rfl, World.heap_drewN, HSS.out]
        rfl
      case done =>
        rintro D ys W hD rfl ⟨hs, hB⟩ hK
        rw [horI_came xs K xs.length 0 (by omega), List.drop_zero] at hs
        have HSS := Lib.hid hs
        have e0 := cell_of (j := 0) hs rfl
        have e1 := cell_of (j := 1) hs rfl
        have HOW := Lib.hid (own_below HO.out hB (Nat.le_refl _))
        have HBW := Lib.hid (HB.out.trans (hB.mono HB.out.size))
        have HMW := Lib.hid (HM.out.cons (w' := W) (Nat.le_refl _) HB.out.size (fun D' _ hD' => (hB.block D' (lt_heap hD')).trans hD') (show wr.heap.size ≤ D by omega) hK)
        have MS := Lib.hid (show rowS (shsTo xs k) ++ [u64v K, u64v (hor xs K)] = rowS (shsTo xs (k + 1)) by rw [HK.out]; exact shsTo_succ xs k)
        obtain ⟨z, hz⟩ : ∃ z, hor xs K = z := ⟨_, rfl⟩
        rw [hz] at e1 MS
        have hsq := HBW.out.size
        obtain ⟨iu, hiu, hz0, hz1, hz2⟩ := info_parts Try.info_sh
        have HIU := Lib.hid (And.intro hiu (And.intro hz0 (And.intro hz1 hz2)))
        clear hiu hz0 hz1 hz2 hz hs hB hK hD
        gi_wp2_with (gi_at_builtin; refine wpListIn_append_own _ rfl _ _ 54 rfl w.heap.size 59 iu (.agg #[.int .u64 0, .int .u64 0]) 2 16 Try.underlying54 HIU.out.1 HIU.out.2.1 HIU.out.2.2.1 HIU.out.2.2.2 rfl (by decide) _ k _ rfl (HOW.out.alloc _) ⟨W.heap.size, 0, none⟩ 1 1 [u64v K, u64v z] rfl rfl ?c1 ?c2 ?c3 ?c4 ?c5 ?_)
        case c1 => exact cell_two_new _ _ _ _
        case c2 => exact two_u64 _ _
        case c3 => unfold maxLen; omega
        case c4 => omega
        case c5 => simp; omega
        intro v7 w7 hown7 hgrow7 _
        rw [MS.out] at hown7
        have HO7 := Lib.hid hown7
        have HB7 := Lib.hid ((HBW.out.alloc hsq _).grown hgrow7 (by simp; omega) (own_base HOW.out))
        have HM7 := Lib.hid (MarksIn.grown (HMW.out.others (KeepsOthers.alloc _ _)) hgrow7 (own_cells (HOW.out.alloc _)))
        clear hown7 hgrow7
        gi_wp2_with fail
        refine ⟨⟨k + 1, v7, _, _, _, _, _, _, _, _, _, _, _, _, _, _, _, mark D :: ds, ⟨by omega, HO7, HB7, HM7⟩, rfl⟩, ?_⟩
        simp [intOf]
        omega
      case stop =>
        rintro D c' pre W - - h -
        exact h.elim
    · have hnl : ¬ (k : Int) < (n : Int) := by omega
      gi_wp2_with fail
      obtain rfl : k = n := by omega
      refine leave_marks ds wr HM.out HB.out.size (fun w' hc hb => ?_)
      exact ⟨.tuple #[v4, .int .i64 0], by simp [results, Try.f16, go_sem], _, rfl, IsSl.keepS (IsShs.row HO.out) hc, HB.out.trans hb⟩
end Go.Proofs.Ytgaanndidcdbpaa
namespace Go.Proofs.Ytgaanndidcdbpaa
open Go.RowKit Go.Shelf

theorem split_any (w : World) (M : Nat → Prop) (v : Value) (xs : List Nat) (h : IsU64 w M v xs) (n : Int) :
    Calls Try.prog 16 #[v, .int .i64 n] w (ShsE w (splitD xs n)) := by
  by_cases hy : allD coefOk xs = true ∧ 1 ≤ n ∧ n ≤ 192
  · obtain ⟨n', rfl⟩ : ∃ n' : Nat, n = (n' : Int) := ⟨n.toNat, by omega⟩
    exact split_go w M v xs h n' hy.1 (by omega) (by omega)
  · rw [splitD_no hy]
    have CA := Lib.hid (all_any asks_coef w M v xs h)
    obtain ⟨A, c, rfl, h1, h2, -⟩ := h
    by_cases ha : allD coefOk xs = true
    · rw [ha] at CA
      by_cases g1 : n < 1
      · clear hy ha
        go_enter Try.func16, Try.ntmps16
        go_wp2_with fail
        refine CA.out.mono ?_
        rintro e w1 ⟨rfl, hb1⟩
        go_wp2_with fail
        go_ret2
        exact ⟨_, rfl, IsSl.nil, hb1⟩
      · have g2 : 192 < n := by
          refine Classical.byContradiction fun hn => hy ⟨ha, by omega, by omega⟩
        clear hy ha
        go_enter Try.func16, Try.ntmps16
        go_wp2_with fail
        refine CA.out.mono ?_
        rintro e w1 ⟨rfl, hb1⟩
        go_wp2_with fail
        go_ret2
        exact ⟨_, rfl, IsSl.nil, hb1⟩
    · rw [show allD coefOk xs = false by simpa using ha] at CA
      clear hy ha
      go_enter Try.func16, Try.ntmps16
      go_wp2_with fail
      refine CA.out.mono ?_
      rintro e w1 ⟨rfl, hb1⟩
      go_wp2_with fail
      go_ret2
      exact ⟨_, rfl, IsSl.nil, hb1⟩

attribute [local go_sem] Oper.semAt_some
/-- the exponent of factor q -/
def kq (x : Nat) : Nat → Nat
  | 0 => 1
  | q + 1 => kq x q * x % 1152921504606845789
theorem kq_lt (x : Nat) : ∀ q, kq x q < 1152921504606845789
  | 0 => (by decide : 1 < 1152921504606845789)
  | q + 1 => Nat.mod_lt _ (by decide)
/-- factor q -/
def facQ (cs : List Nat) (x q : Nat) : Nat := pw (nth cs q) (kq x q)
def encF (cs : List Nat) (x q : Nat) : Array Value := #[.int .u64 ((facQ cs x q : Nat) : Int)]
theorem grown_drewN (w : World) (n : Nat) (row : Option Nat) : w.grownBy (w.drewN n) row := ⟨rfl, rfl, rfl, Nat.le_refl _, fun _ _ _ => rfl⟩
theorem nth_get {cs : List Nat} {q : Nat} (h : q < cs.length) : nth cs q = cs[q] := by unfold nth; rw [List.getD_eq_getElem?_getD, List.getElem?_eq_getElem h]; rfl

set_option maxRecDepth 100000 in
set_option maxHeartbeats 2000000 in
theorem factors1_in (n : Nat) (hn : 1 ≤ n) (l Bs Bx cap : Nat) (M : Nat → Prop) (A : Option Addr) (cs : List Nat) (x : Nat) (hx : x < 1152921504606845789) (hreach : cs.length ≤ 4096) (hBx : M Bx) (J Jx : List Nat → World → Prop) (hJ : ∀ pre W m, J pre W → J pre (W.drewN m))
    (hY : ∀ pre q W, J pre W → pre.length < cs.length → YieldAt Fence.wide (n - 1) Try.prog l (encF cs x q) W fun e W' =>
      (e = .returned (.bool true) ∧ J (pre ++ [q]) W' ∧ KM M W W') ∨ (e = .returned (.bool false) ∧ Jx (pre ++ [q]) W'))
    (W : World) (cBs : W.cell? ⟨Bs, 0, none⟩ = some (.slice A cs.length cap)) (cBx : W.cell? ⟨Bx, 0, none⟩ = some (.int .u64 (x : Int))) (hc : IsU64 W M (.slice A cs.length cap) cs) (h0 : J [] W) :
    CallsIn Fence.wide n Try.prog 107 #[.func (.yield l) #[] #[], .pointer (some ⟨Bs, 0, none⟩), .pointer (some ⟨Bx, 0, none⟩)] W fun e W' => (∃ v, e = .returned v) ∧
      ((∃ ys, ys = List.range cs.length ∧ J ys W') ∨ (∃ pre, (∃ q, q < cs.length ∧ pre = List.range (q + 1)) ∧ Jx pre W')) := by
  obtain ⟨A', c', e', -, -, hc⟩ := hc
  cases e'
  refine callsIn_of_wp Try.func107 rfl trivial ?_ rfl
  simp only [Try.ntmps107, List.size_toArray, List.length_cons, List.length_nil, Nat.reduceAdd, Nat.reduceSub, Array.replicate_succ, Array.replicate_zero, List.push_toArray, List.append_toArray, List.nil_append, List.cons_append]
  gi_wp2_with fail
  gi_loopw [4, 9] (fun kk i wr => ∃ q : Nat, q ≤ cs.length ∧ i = .int .i64 (q : Int) ∧ kk = .int .u64 ((kq x q : Nat) : Int) ∧ Hid (J (List.range q) wr) ∧ Hid (KM M W wr)) (fun _ i _ => cs.length - (intOf i).toNat)
  case atStart => exact ⟨0, Nat.zero_le _, rfl, rfl, Lib.hid h0, Lib.hid (KM.refl _)⟩
  case round =>
    obtain ⟨q, hq, rfl, rfl, HJ0, HK⟩ := hrel
    by_cases hlt : q < cs.length
    · have hlt' : (q : Int) < (cs.length : Int) := by omega
      obtain ⟨b, off, rfl, hbn, hcs⟩ := hc (by omega)
      have hc0 : wr.cell? ⟨b, off + q, none⟩ = some (.int .u64 ((nth cs q : Nat) : Int)) := by
        have h := (HK.out.cell (p := ⟨b, off + q * 1 + 0, none⟩) hbn).trans (hcs q 0 hlt (by omega))
        rw [Nat.mul_one, Nat.add_zero] at h
        exact h
      have CP := fun W => Lib.hid (Pow_any (nth cs q) (kq x q) (Nat.lt_trans (kq_lt x q) (by decide)) W)
      have CM := fun W => Lib.hid (mul_Q (kq x q) x (kq_lt x q) hx W)
      have HE : Hid (encF cs x q = #[.int .u64 ((pw (nth cs q) (kq x q) : Nat) : Int)]) := rfl
      have HQ1 : Hid (kq x (q + 1) = kq x q * x % 1152921504606845789) := rfl
      obtain ⟨z, hz⟩ : ∃ z, pw (nth cs q) (kq x q) = z := ⟨_, rfl⟩
      rw [hz] at CP HE
      rw [← HQ1.out] at CM
      clear hz
      have hY' := fun W' hW' hl' => hY (List.range q) q W' hW' hl'
      rw [HE.out] at hY'
      have HYh := Lib.hid hY'
      clear hY'
      gi_wp2_with fail
      refine ⟨trivial, callsIn_wide.2 ?_⟩
      refine (CP _).out.mono ?_
      rintro e w2 ⟨rfl, m, rfl⟩
      obtain ⟨fn, tmps, assign, body, hy, hR⟩ := HYh.out (wr.drewN m) (hJ _ _ _ HJ0.out) (by rw [List.length_range]; exact hlt)
      gi_wp2_with fail
      refine hR.mono ?_
      rintro e W3 (⟨rfl, hJ3, hk3⟩ | ⟨rfl, hJx3⟩)
      · have HK3 := Lib.hid ((HK.out.drewN m).trans hk3)
        have hx3 := (HK3.out.cell (p := ⟨Bx, 0, none⟩) hBx).trans cBx
        have HJ3 := Lib.hid hJ3
        clear hJ3 hk3 hy hR
        gi_wp2_with fail
        refine ⟨trivial, callsIn_wide.2 ?_⟩
        refine (CM _).out.mono ?_
        rintro e w4 ⟨rfl, m2, rfl⟩
        gi_wp2_with fail
        go_roundw
        case rel => exact ⟨q + 1, by omega, by go_num, rfl, Lib.hid (hJ _ _ _ (by rw [List.range_succ]; exact HJ3.out)), Lib.hid (HK3.out.drewN _)⟩
        case measure => simp [intOf]; omega
      · have HJ3 := Lib.hid hJx3
        clear hJx3 hy hR
        gi_wp2_with fail
        refine bodyPost_ret (results_none rfl _ _ _) rfl ?_
        exact ⟨⟨_, rfl⟩, .inr ⟨_, ⟨q, hlt, rfl⟩, by rw [List.range_succ]; exact HJ3.out⟩⟩
    · have hnl : ¬ (q : Int) < (cs.length : Int) := by omega
      gi_wp2_with fail
      go_end0
      obtain rfl : q = cs.length := by omega
      exact ⟨⟨_, rfl⟩, .inl HJ0.out⟩
theorem factors_any (A : Option Addr) (len cap x : Nat) (w : World) :
    Calls Try.prog 98 #[.slice A len cap, .int .u64 x] w fun e w' => e = .returned (.func (.func 107) #[] #[.pointer (some ⟨w.heap.size, 0, none⟩), .pointer (some ⟨w.heap.size + 1, 0, none⟩)]) ∧ w' = (w.alloc (.cells #[.slice A len cap] 35)).alloc (.cells #[.int .u64 x] 23) := by
  go_enter Try.func98, Try.ntmps98
  go_wp2_with fail
  go_ret
  exact ⟨rfl, rfl⟩
theorem factors_stops (n : Nat) (hn : 1 ≤ n) (Bs Bx cap : Nat) (M : Nat → Prop) (A : Option Addr) (cs : List Nat) (x : Nat) (hx : x < 1152921504606845789) (hreach : cs.length ≤ 4096) (hBs : M Bs) (hBx : M Bx) (w : World) (hM : ∀ k, M k → k < w.heap.size)
    (cBs : w.cell? ⟨Bs, 0, none⟩ = some (.slice A cs.length cap)) (cBx : w.cell? ⟨Bx, 0, none⟩ = some (.int .u64 (x : Int))) (hc : IsU64 w M (.slice A cs.length cap) cs) :
    SeqStopsK Fence.wide n Try.prog 107 #[.pointer (some ⟨Bs, 0, none⟩), .pointer (some ⟨Bx, 0, none⟩)] (encF cs x) (KM M) (fun ys => ys = List.range cs.length) (fun pre => ∃ q, q < cs.length ∧ pre = List.range (q + 1)) cs.length w := fun l J Jx W hW hJ _ hY h0 =>
  factors1_in n hn l Bs Bx cap M A cs x hx hreach hBx J Jx (fun pre W' m hj => hJ pre W' _ none hj (grown_drewN W' m none) (fun r e => by cases e)) hY W ((hW.cell (p := ⟨Bs, 0, none⟩) (hM _ hBs)).trans cBs) ((hW.cell (p := ⟨Bx, 0, none⟩) (hM _ hBx)).trans cBx) (IsSl.keep hc fun _ hp _ => hW.cell (hM _ hp)) h0
end Go.Proofs.Ytgaanndidcdbpaa
namespace Go.Proofs.Ytgaanndidcdbpaa
open Go.RowKit Go.Shelf

attribute [local go_sem] Oper.semAt_some
/-- the product after the factors of pre -/
def prF (cs : List Nat) (x : Nat) (pre : List Nat) : Nat := pre.foldl (fun p q => p * facQ cs x q % 2305843009213691579) 1
theorem prF_snoc (cs : List Nat) (x : Nat) (pre : List Nat) (q : Nat) : prF cs x (pre ++ [q]) = prF cs x pre * facQ cs x q % 2305843009213691579 := by
  unfold prF; rw [List.foldl_append]; rfl
theorem prF_lt (cs : List Nat) (x : Nat) (pre : List Nat) : prF cs x pre < 2305843009213691579 := by
  rcases List.eq_nil_or_concat pre with rfl | ⟨l, a, rfl⟩
  · exact (by decide : (1 : Nat) < 2305843009213691579)
  · rw [List.concat_eq_append, prF_snoc]; exact Nat.mod_lt _ (by decide)
theorem prF_verP (cs : List Nat) (x : Nat) : ∀ d q, q + d = cs.length → verP (cs.drop q) x (prF cs x (List.range q)) (kq x q) = prF cs x (List.range cs.length)
  | 0, q, h => by
    obtain rfl : q = cs.length := by omega
    rw [List.drop_length]; rfl
  | d + 1, q, h => by
    have hq : q < cs.length := by omega
    rw [List.drop_eq_getElem_cons hq]
    have hs := prF_verP cs x d (q + 1) (by omega)
    rw [List.range_succ, prF_snoc] at hs
    have e : facQ cs x q = pw cs[q] (kq x q) := by unfold facQ; rw [nth_get hq]
    rw [e] at hs
    exact hs
theorem prF_ver (cs : List Nat) (x : Nat) : prF cs x (List.range cs.length) = verP cs x 1 1 := (prF_verP cs x cs.length 0 (by omega)).symm
theorem shOk_lt {s : Nat × Nat} (h : shOk s = true) : 1 ≤ s.1 ∧ s.1 ≤ 192 ∧ s.2 < 1152921504606845789 := by
  unfold shOk at h
  simp only [Bool.and_eq_true, decide_eq_true_eq] at h
  exact ⟨h.1.1, h.1.2, h.2⟩

set_option maxRecDepth 100000 in
set_option maxHeartbeats 2000000 in
theorem verify_go (w : World) (M : Nat → Prop) (v : Value) (cs : List Nat) (h : IsU64 w M v cs) (x y : Nat) (ha : allD elOk cs = true) (hs : shOk (x, y) = true) :
    Calls Try.prog 64 #[v, .agg #[.int .u64 x, .int .u64 y]] w fun e w' => e = .returned (.bool (verD cs (x, y))) ∧ Below w.heap.size w w' := by
  have CA := fun W (hB : Below w.heap.size w W) => Lib.hid (all_any asks_elem W M v cs (h.below hB))
  have H := Lib.hid h
  have CI := fun W => Lib.hid (isShare_any x y W)
  rw [hs] at CI
  obtain ⟨hx1, hx2, hy⟩ := shOk_lt hs
  have hv : verD cs (x, y) = (((pw 4 y : Nat) : Int) == ((prF cs x (List.range cs.length) : Nat) : Int)) := by
    unfold verD
    rw [ha, hs, prF_ver, Bool.eq_iff_iff]
    simp
    omega
  rw [hv]
  obtain ⟨A, c, rfl, h1, h2, -⟩ := h
  have HLE : Hid (cs.length ≤ 24) := (by unfold allD lenOk at ha; simp only [Bool.and_eq_true, decide_eq_true_eq] at ha; exact ha.1.2)
  rw [ha] at CA
  have CW := fun W => Lib.hid (Pow_any 4 y (Nat.lt_trans hy (by decide)) W)
  obtain ⟨py, hpy⟩ : ∃ z, pw 4 y = z := ⟨_, rfl⟩
  rw [hpy] at CW ⊢
  have hxQ : x < 1152921504606845789 := Nat.lt_of_le_of_lt hx2 (by decide)
  clear ha hs hv hpy hy hx1
  refine (callsIn_wide (n := 6)).1 ?_
  refine callsIn_of_wp_marks Try.func64 rfl trivial ?_ rfl
  simp only [Try.ntmps64, List.size_toArray, List.length_cons, List.length_nil, Nat.reduceAdd, Nat.reduceSub, Array.replicate_succ, Array.replicate_zero, List.push_toArray, List.append_toArray, List.nil_append, List.cons_append]
  gi_wp2_with fail
  refine ⟨trivial, callsIn_wide.2 (nameW fun W1 hW1 => ?_)⟩
  have hB1 : Below w.heap.size w W1 := by rw [hW1.out]; exact (Below.refl w.heap.size w).alloc (Nat.le_refl _) _
  have k0 : W1.heap[w.heap.size]? = some (.cells #[.int .u64 x, .int .u64 y] 59 (0, 0)) := (by rw [hW1.out]; simp only [heap_alloc_if]; rw [if_pos trivial])
  refine (CA _ hB1).out.mono ?_
  rintro e w1 ⟨rfl, hb1⟩
  have hF1 := hB1.trans (hb1.mono hB1.size)
  have K0 := (hb1.block w.heap.size (lt_heap k0)).trans k0
  clear hb1 hB1 k0 hW1
  have e0 := cell_of (j := 0) K0 rfl
  have e1 := cell_of (j := 1) K0 rfl
  have HF1 := Lib.hid hF1
  have HK0 := Lib.hid K0
  clear hF1 K0
  gi_wp2_with fail
  refine ⟨trivial, callsIn_wide.2 ?_⟩
  refine (CI _).out.mono ?_
  rintro e w2 ⟨rfl, hb2⟩
  have HF2 := Lib.hid (HF1.out.trans (hb2.mono HF1.out.size))
  have K0 := (hb2.block w.heap.size (lt_heap HK0.out)).trans HK0.out
  clear hb2 e0 e1
  have e0 := cell_of (j := 0) K0 rfl
  have e1 := cell_of (j := 1) K0 rfl
  have HK2 := Lib.hid K0
  have hl2 : w.heap.size < w2.heap.size := lt_heap K0
  clear K0
  gi_wp2_with fail
  refine ⟨trivial, callsIn_wide.2 (nameW fun W3 hW3 => ?_)⟩
  refine (factors_any _ _ _ _ _).mono ?_
  rintro e w3 ⟨rfl, rfl⟩
  have hz3 : W3.heap.size = w2.heap.size + 2 := by rw [hW3.out]; simp
  have hB3 : Below w2.heap.size w2 W3 := by rw [hW3.out]; exact ((Below.refl _ _).alloc (Nat.le_refl _) _).alloc (by simp) _
  have j0 : W3.heap[w2.heap.size]? = some (.cells #[.func (.func 40) #[.int .u64 2305843009213691579] #[]] 101 (0, 0)) := (by rw [hW3.out]; simp only [heap_alloc_if, World.size_alloc]; repeat (first | rw [if_pos trivial] | rw [if_pos (by omega)] | rw [if_neg (by omega)]))
  have j1 : W3.heap[w2.heap.size + 1]? = some (.cells #[.int .u64 1] 23 (0, 0)) := (by rw [hW3.out]; simp only [heap_alloc_if, World.size_alloc]; repeat (first | rw [if_pos trivial] | rw [if_pos (by omega)] | rw [if_neg (by omega)]))
  have HF3 := Lib.hid (HF2.out.trans (hB3.mono HF2.out.size))
  have hk3 := (hB3.block w.heap.size (by omega)).trans HK2.out
  clear hW3 hB3
  gi_wp2_with fail
  obtain ⟨W0, hW0⟩ : ∃ W0, W0 = (W3.alloc (.cells #[.slice A cs.length c] 35)).alloc (.cells #[.int .u64 (x : Int)] 23) := ⟨_, rfl⟩
  have hz0 : W0.heap.size = w2.heap.size + 4 := by rw [hW0]; simp; omega
  have hB0 : Below W3.heap.size W3 W0 := by rw [hW0]; exact ((Below.refl _ _).alloc (Nat.le_refl _) _).alloc (by simp) _
  have k2 : W0.heap[w2.heap.size + 2]? = some (.cells #[.slice A cs.length c] 35 (0, 0)) := (by rw [hW0]; simp only [heap_alloc_if, World.size_alloc]; repeat (first | rw [if_pos trivial] | rw [if_pos (by omega)] | rw [if_neg (by omega)]))
  have k3 : W0.heap[w2.heap.size + 2 + 1]? = some (.cells #[.int .u64 (x : Int)] 23 (0, 0)) := (by rw [hW0]; simp only [heap_alloc_if, World.size_alloc]; repeat (first | rw [if_pos trivial] | rw [if_pos (by omega)] | rw [if_neg (by omega)]))
  have i0 := (hB0.block w2.heap.size (by omega)).trans j0
  have i1 := (hB0.block (w2.heap.size + 1) (by omega)).trans j1
  have hk0 := (hB0.block w.heap.size (by omega)).trans hk3
  rw [← hW0]
  have HF0 := Lib.hid (HF3.out.trans (hB0.mono HF3.out.size))
  clear hW0 hB0 j0 j1 hk3
  have hUm : IsU64 W0 (fun b => b < W0.heap.size ∧ b ≠ w2.heap.size + 1) (.slice A cs.length c) cs := by
    have hwr : w.heap.size ≤ w2.heap.size := HF2.out.size
    obtain ⟨A', c', e', q1, q2, q3⟩ := H.out
    refine ⟨A', c', e', q1, q2, fun hn => ?_⟩
    obtain ⟨b, off, e, -, hcc⟩ := q3 hn
    have hbw : b < w.heap.size := lt_of_cell (hcc 0 0 hn (by omega))
    refine ⟨b, off, e, ⟨by omega, by omega⟩, fun i j hi hj => ?_⟩
    exact (HF0.out.cell (p := ⟨b, _, none⟩) hbw).trans (hcc i j hi hj)
  have I0 := Lib.hid i0
  have HK0 := Lib.hid hk0
  have HZ3 := Lib.hid hz3
  clear i0 hk0 hz3
  refine wpIn_rangeFunc_ownF rfl (by omega) (gf := 107) (lb := #[.pointer (some ⟨w2.heap.size + 2, 0, none⟩), .pointer (some ⟨w2.heap.size + 2 + 1, 0, none⟩)]) rfl trivial (enters_of Try.func107 (by kernel_rfl) rfl)
    (factors_stops 5 (by decide) (w2.heap.size + 2) (w2.heap.size + 2 + 1) c (fun b => b < W0.heap.size ∧ b ≠ w2.heap.size + 1) A cs x hxQ (by have := HLE.out; omega) ⟨by omega, by omega⟩ ⟨by omega, by omega⟩ W0 (fun k hk => hk.1) (cell_of (j := 0) k2 rfl) (cell_of (j := 0) k3 rfl) hUm)
    km_t (km_b (fun k hk => hk.1)) (Below.refl _ _) (fun _ => rfl)
    (fun pre W => W.heap[w2.heap.size + 1]? = some (.cells #[.int .u64 ((prF cs x pre : Nat) : Int)] 23 (0, 0)) ∧ KM (fun b => b < W0.heap.size ∧ b ≠ w2.heap.size + 1) W0 W ∧ Below w.heap.size w W)
    (fun _ _ _ => False)
    (OwnFrom.and (ownFrom_cells _ _ _ (fun _ => rfl)) (OwnFrom.and (ownFrom_km (fun k hk => hk.1) (Nat.le_refl _)) (ownFrom_below (Nat.le_refl _) HF0.out.size)))
    (fun _ _ _ _ _ hs _ _ => hs)
    ⟨i1, KM.refl _, HF0.out⟩
    (fun q => { tmps := #[Value.slice A cs.length c, Value.agg #[Value.int IntKind.u64 (x : Int), Value.int IntKind.u64 (y : Int)], undef, Value.pointer (some ⟨w.heap.size, 0, none⟩), Value.bool false, Value.pointer (some ⟨w2.heap.size, 0, none⟩), Value.pointer (some ⟨w2.heap.size + 1, 0, none⟩), Value.int IntKind.u64 ((facQ cs x q : Nat) : Int), Value.slice A cs.length c, Value.bool true, Value.bool false, Value.bool false, Value.agg #[Value.int IntKind.u64 (x : Int), Value.int IntKind.u64 (y : Int)], Value.bool true, Value.bool false, Value.bool false, Value.func (Fn.func 40) #[Value.int IntKind.u64 2305843009213691579] #[], Value.slice A cs.length c, Value.pointer (some ⟨w.heap.size, 0, none⟩), Value.int IntKind.u64 (x : Int), Value.func (Fn.func 107) #[] #[Value.pointer (some ⟨w2.heap.size + 2, 0, none⟩), Value.pointer (some ⟨w2.heap.size + 2 + 1, 0, none⟩)], Value.int IntKind.u64 ((facQ cs x q : Nat) : Int), undef, undef, undef, undef, undef, undef, undef, undef, undef], defers := [] })
    ?assign ?body ?done ?stop
  case assign =>
    intro l j W K' hK'
    simp only [encF]
    gi_wp2
    exact hK'
  case body =>
    rintro l pre q W ⟨hs, hB, hW⟩ -
    have e1 := cell_of (j := 0) hs rfl
    have f1 := frozen_of (j := 0) hs
    have e0 := cell_of (j := 0) ((hB.block w2.heap.size ⟨by omega, by omega⟩).trans I0.out) rfl
    have C1 := fun W => Lib.hid (mul_P (prF cs x pre) (facQ cs x q) (prF_lt _ _ _) (pw_lt _ _) W)
    rw [← prF_snoc cs x pre q] at C1
    have HSS := Lib.hid hs
    have HBB := Lib.hid hB
    have HWW := Lib.hid hW
    clear hs hB hW
    gi_wp2_with fail
    refine ⟨trivial, ?_⟩
    refine (CallsIn.inRound l (callsIn_wide.2 (C1 _).out)).mono ?_
    rintro e w4 ⟨rfl, n1, rfl⟩
    gi_wp2_with fail
    refine ⟨((KeepsOthers.drewN _ _).trans (KeepsOthers.setCell _ _ _)), ((KM.refl _).drewN _).setCell (by omega) _ _, ?_, (HBB.out.drewN _).setCell (by omega) _ _, (below_drewN HWW.out _).setCell (by dsimp only; omega) _⟩
    rw [heap_set_if, if_pos rfl, World.heap_drewN, HSS.out]
    rfl
  case done =>
    rintro D ys W hD rfl ⟨hs, hB, hW⟩ hK
    have e1 := cell_of (j := 0) hs rfl
    have hk4 := (hB.block w.heap.size ⟨by have := HF2.out.size; omega, by have := HF2.out.size; omega⟩).trans HK0.out
    have y0 := cell_of (j := 0) hk4 rfl
    have y1 := cell_of (j := 1) hk4 rfl
    have HBB := Lib.hid hW
    have HKK := Lib.hid hK
    have HD := Lib.hid hD
    clear hs hB hK hk4 hD hW
    gi_wp2_with fail
    refine wpIn_wide.2 ?_
    go_quiet ((go_at_call 52; exact Calls.quiet_of (CW _).out))
    gi_wp2_with fail
    refine leave_marks _ _ (MarksIn.one (n₀ := w.heap.size) (Nat.le_trans HF0.out.size HD.out) HKK.out) (Nat.le_trans HBB.out.size (Nat.le_refl _)) (fun w' hc hb => ?_)
    exact ⟨_, by simp [results, Try.f64, go_sem], rfl, (below_drewN HBB.out _).trans hb⟩
  case stop =>
    rintro D c' pre W - - h -
    exact h.elim
end Go.Proofs.Ytgaanndidcdbpaa
namespace Go.Proofs.Ytgaanndidcdbpaa
open Go.RowKit Go.Shelf

theorem verD_no {cs : List Nat} {s : Nat × Nat} (h : ¬ (allD elOk cs = true ∧ shOk s = true)) : verD cs s = false := by
  unfold verD
  cases h1 : allD elOk cs <;> cases h2 : shOk s <;> simp_all
theorem verify_any (w : World) (M : Nat → Prop) (v : Value) (cs : List Nat) (h : IsU64 w M v cs) (x y : Nat) :
    Calls Try.prog 64 #[v, .agg #[.int .u64 x, .int .u64 y]] w fun e w' => e = .returned (.bool (verD cs (x, y))) ∧ Below w.heap.size w w' := by
  by_cases hy : allD elOk cs = true ∧ shOk (x, y) = true
  · exact verify_go w M v cs h x y hy.1 hy.2
  · rw [verD_no hy]
    have CA := fun W (hB : Below w.heap.size w W) => Lib.hid (all_any asks_elem W M v cs (h.below hB))
    have CI := fun W => Lib.hid (isShare_any x y W)
    obtain ⟨A, c, rfl, h1, h2, -⟩ := h
    by_cases ha : allD elOk cs = true
    · rw [ha] at CA
      rw [show shOk (x, y) = false by simpa [ha] using hy] at CI
      clear hy ha
      go_enter Try.func64, Try.ntmps64
      go_wp2_with fail
      refine nameW fun W1 hW1 => ?_
      have hB1 : Below w.heap.size w W1 := by rw [hW1.out]; exact (Below.refl w.heap.size w).alloc (Nat.le_refl _) _
      have k0 : W1.heap[w.heap.size]? = some (.cells #[.int .u64 x, .int .u64 y] 59 (0, 0)) := (by rw [hW1.out]; simp only [heap_alloc_if]; rw [if_pos trivial])
      refine (CA _ hB1).out.mono ?_
      rintro e w1 ⟨rfl, hb1⟩
      have hF1 := hB1.trans (hb1.mono hB1.size)
      have K0 := (hb1.block w.heap.size (lt_heap k0)).trans k0
      clear hb1 hB1 k0 hW1
      have e0 := cell_of (j := 0) K0 rfl
      have e1 := cell_of (j := 1) K0 rfl
      have HF1 := Lib.hid hF1
      clear hF1 K0
      go_wp2_with fail
      refine (CI _).out.mono ?_
      rintro e w2 ⟨rfl, hb2⟩
      have HF2 := Lib.hid (HF1.out.trans (hb2.mono HF1.out.size))
      clear hb2 e0 e1
      go_wp2_with fail
      go_ret
      exact ⟨rfl, HF2.out⟩
    · rw [show allD elOk cs = false by simpa using ha] at CA
      clear hy ha
      go_enter Try.func64, Try.ntmps64
      go_wp2_with fail
      refine nameW fun W1 hW1 => ?_
      have hB1 : Below w.heap.size w W1 := by rw [hW1.out]; exact (Below.refl w.heap.size w).alloc (Nat.le_refl _) _
      refine (CA _ hB1).out.mono ?_
      rintro e w1 ⟨rfl, hb1⟩
      have HF1 := Lib.hid (hB1.trans (hb1.mono hB1.size))
      clear hb1 hB1 hW1
      go_wp2_with fail
      go_ret
      exact ⟨rfl, HF1.out⟩
end Go.Proofs.Ytgaanndidcdbpaa
