import Derived.Test.YthlnfjbedehjdaaGen
import Derived.RangeFuncNested
import Derived.RangeFuncBound
import Derived.RangeFuncCalls
import Derived.RangeFuncLeaves
import Derived.RangeFuncBox
import Derived.Shelf.Abstract
import Derived.Shelf.RegionOpen
import Derived.OwnWalkIn
import Derived.TacticsInMore
import Derived.LoopNIn
import Derived.LoopIn
namespace Go.Proofs.Ythlnfjbedehjdaa
open Go.RowKit Go.Shelf

/-- the mark that a range over a function leaves among the deferred calls -/
def mark (D : Nat) : Deferred := { target := .collected D, args := #[] }
/-- marks of ranges over functions that are over, laid from n₀ on -/
def MarksIn (n₀ : Nat) (w : World) (ds : List Deferred) : Prop := ∃ Ds : List Nat, ds = Ds.map mark ∧ Ds.Nodup ∧ ∀ D ∈ Ds, n₀ ≤ D ∧ w.heap[D]? = some (.deferred (some []))
/-- every cell reads as it did -/
def CellsSame (w w' : World) : Prop := ∀ (p : Addr) v, w.cell? p = some v → w'.cell? p = some v
theorem CellsSame.refl (w : World) : CellsSame w w := fun _ _ h => h
theorem CellsSame.trans {a b c : World} (h : CellsSame a b) (k : CellsSame b c) : CellsSame a c := fun p v e => k p v (h p v e)
section
variable {w w' : World} {n₀ : Nat} {ds : List Deferred}
theorem MarksIn.nil : MarksIn n₀ w [] := ⟨[], rfl, List.nodup_nil, fun _ h => absurd h (by simp)⟩
theorem MarksIn.kept (h : MarksIn n₀ w ds) (hk : ∀ D, n₀ ≤ D → w.heap[D]? = some (.deferred (some [])) → w'.heap[D]? = some (.deferred (some []))) : MarksIn n₀ w' ds := by
  obtain ⟨Ds, h1, h2, h3⟩ := h
  exact ⟨Ds, h1, h2, fun D hD => ⟨(h3 D hD).1, hk D (h3 D hD).1 (h3 D hD).2⟩⟩
theorem MarksIn.below {m : Nat} (h : MarksIn n₀ w ds) (hb : Below m w w') (hm : w.heap.size ≤ m) : MarksIn n₀ w' ds := h.kept fun D _ hD => (hb.block D (Nat.lt_of_lt_of_le (lt_heap hD) hm)).trans hD
theorem MarksIn.others (h : MarksIn n₀ w ds) (hk : KeepsOthers w w') : MarksIn n₀ w' ds := h.kept fun D _ hD => hk.same D _ hD rfl
theorem MarksIn.grown {row : Option Nat} (h : MarksIn n₀ w ds) (hg : w.grownBy w' row) (hr : ∀ g o, row = some g → w.heap[g]? = some o → o.isCells = true) : MarksIn n₀ w' ds := h.kept fun D _ hD => (hg.block D (lt_heap hD) (fun e => by have := hr D _ e.symm hD; cases this)).trans hD
theorem MarksIn.cons {D m : Nat} (h : MarksIn n₀ w ds) (hm : w.heap.size ≤ m) (hn : n₀ ≤ m) (hk : ∀ D', n₀ ≤ D' → w.heap[D']? = some (.deferred (some [])) → w'.heap[D']? = some (.deferred (some []))) (hD : m ≤ D) (hD' : w'.heap[D]? = some (.deferred (some []))) :
    MarksIn n₀ w' (mark D :: ds) := by
  obtain ⟨Ds, h1, h2, h3⟩ := h
  refine ⟨D :: Ds, by rw [h1]; rfl, List.nodup_cons.2 ⟨fun hin => ?_, h2⟩, fun D' hin => ?_⟩
  · have := lt_heap (h3 D hin).2
    omega
  · rcases List.mem_cons.1 hin with e | hin
    · rw [e]; exact ⟨by omega, hD'⟩
    · exact ⟨(h3 D' hin).1, hk D' (h3 D' hin).1 (h3 D' hin).2⟩
theorem MarksIn.one {D : Nat} (hn : n₀ ≤ D) (hD : w.heap[D]? = some (.deferred (some []))) : MarksIn n₀ w [{ target := .collected D, args := #[] }] := ⟨[D], rfl, by simp, fun D' h => by rw [List.mem_singleton] at h; rw [h]; exact ⟨hn, hD⟩⟩
theorem CellsSame.put {D : Nat} (hD : w.heap[D]? = some (.deferred (some []))) : CellsSame w (w.putObj D (.deferred none)) := fun _ _ h =>
  cell_kept h (grownBy_putObj' _ D (.deferred none)) (fun r e => by cases e; exact ⟨_, hD, rfl⟩)
theorem leave_marks {P : Program} {F : Fence} {n : Nat} {fn : Func} {tmps : Array Value} {R : Ending → World → Prop} : ∀ (ds : List Deferred) (w : World), MarksIn n₀ w ds → n₀ ≤ w.heap.size →
    (∀ w', CellsSame w w' → Below n₀ w w' → LeavesInM F n P fn tmps R [] .returning w') → LeavesInM F n P fn tmps R ds .returning w
  | [], w, _, _, hb => hb w (CellsSame.refl w) (Below.refl _ _)
  | d :: ds, w, h, hn, hb => by
    obtain ⟨Ds, h1, h2, h3⟩ := h
    cases Ds with
    | nil => cases h1
    | cons D Ds =>
      injection h1 with e1 e2
      have hD := h3 D (by simp)
      have hbl : Below n₀ w (w.putObj D (.deferred none)) := (Below.refl n₀ w).grown (grownBy_putObj' w D (.deferred none)) hn (fun k e => by cases e; exact hD.1)
      refine ⟨by simp, .inl ⟨D, _, by rw [e1]; rfl, run_takeDeferred hD.2, ?_⟩⟩
      refine leave_marks ds _ ?_ (Nat.le_trans hn hbl.size) (fun w' hc hB => hb w' ((CellsSame.put hD.2).trans hc) (hbl.trans hB))
      refine ⟨Ds, e2, (List.nodup_cons.1 h2).2, fun D' hin => ⟨(h3 D' (List.mem_cons_of_mem _ hin)).1, ?_⟩⟩
      rw [World.putObj_heap_other (fun e => (List.nodup_cons.1 h2).1 (by rw [← e]; exact hin))]
      exact (h3 D' (List.mem_cons_of_mem _ hin)).2
end
theorem KeepsOthers.drewN (W : World) (n : Nat) : KeepsOthers W (W.drewN n) := ⟨Nat.le_refl _, fun _ _ h _ => h⟩
/-- the blocks of M are as they were -/
structure KM (M : Nat → Prop) (w w' : World) : Prop where
  size : w.heap.size ≤ w'.heap.size
  block : ∀ k, M k → w'.heap[k]? = w.heap[k]?
section
variable {M : Nat → Prop} {a b c : World}
theorem KM.refl (a : World) : KM M a a := ⟨Nat.le_refl _, fun _ _ => rfl⟩
theorem KM.trans (h : KM M a b) (k : KM M b c) : KM M a c := ⟨Nat.le_trans h.size k.size, fun i hi => (k.block i hi).trans (h.block i hi)⟩
theorem KM.cell (h : KM M a b) {p : Addr} (hp : M p.block) : b.cell? p = a.cell? p := World.cell?_of_block (w := a) (h.block p.block hp)
theorem KM.drewN (h : KM M a b) (n : Nat) : KM M a (b.drewN n) := ⟨h.size, h.block⟩
theorem KM.drew (h : KM M a b) : KM M a b.drew := ⟨h.size, h.block⟩
theorem KM.setCell (h : KM M a b) {g : Nat} (hg : ¬ M g) (j : Nat) (u : Value) : KM M a (b.setCell ⟨g, j, none⟩ u) :=
  h.trans ⟨by simp [World.setCell], fun i hi => Below.heap_setCell _ _ _ _ (fun e => hg (by rw [e] at hi; exact hi))⟩
theorem KM.alloc (h : KM M a b) (hM : ∀ k, M k → k < a.heap.size) (o : Obj) : KM M a (b.alloc o) :=
  h.trans ⟨by simp, fun i hi => Below.heap_alloc _ _ _ (Nat.lt_of_lt_of_le (hM i hi) h.size)⟩
theorem KM.below {n : Nat} (h : KM M a b) (k : Below n b c) (hM : ∀ k, M k → k < n) : KM M a c := h.trans ⟨k.size, fun i hi => k.block i (hM i hi)⟩
theorem km_t (h : KM M a b) (k : KM M b c) : KM M a c := h.trans k
theorem km_b (hM : ∀ k, M k → k < a.heap.size) (W : World) (l : Nat) (o o' : Obj) (hl : a.heap.size ≤ l) (_ : W.heap[l]? = some o) (_ : o.isCells = false) (_ : o.isWalk = false) : KM M W (W.putObj l o') :=
  ⟨by simp, fun i hi => World.putObj_heap_other (fun e => by have := hM i hi; omega)⟩
end
theorem ownFrom_km {β : Type} {B : Nat} {M : Nat → Prop} {w₀ : World} (hM : ∀ k, M k → k < w₀.heap.size) (hB : w₀.heap.size ≤ B) : OwnFrom B (fun (_ : β) W => KM M w₀ W) := fun _ X Y row hs hg hr =>
  hs.trans ⟨hg.size, fun k hk => hg.block k (Nat.lt_of_lt_of_le (hM k hk) hs.size) (fun e => by have := (hr k e.symm).1; have := hM k hk; omega)⟩
/-- what lies in a block of cells is the caller's own -/
theorem ownFrom_cells {β : Type} (B B' : Nat) (o : β → Obj) (hc : ∀ s, (o s).isCells = true) : OwnFrom B (fun s W => W.heap[B']? = some (o s)) := fun s X Y row hs hg hr => by
  refine (hg.block B' (lt_heap hs) (fun e => ?_)).trans hs
  obtain ⟨_, o', ho, hno⟩ := hr B' e.symm
  rw [hs] at ho
  cases ho
  rw [hc] at hno
  cases hno
theorem frozen_of {w : World} {g j : Nat} {cs : Array Value} {t : TypeId} (h : w.heap[g]? = some (.cells cs t (0, 0))) : w.frozen? ⟨g, j, none⟩ = false := by simp [World.frozen?, h]
/-- element j of numbers -/
def nth (xs : List Nat) (j : Nat) : Nat := xs.getD j 0
theorem own_cells {w : World} {base e size n : Nat} {v : Value} {xs : List Value} (h : w.ownsRow base e size v n xs) : ∀ g o, v.ownBlock = some g → w.heap[g]? = some o → o.isCells = true := by
  intro g o hg ho
  rcases h.2 with ⟨rfl, _⟩ | ⟨b, cap, cur, rfl, _, hgb, _⟩
  · simp [Value.ownBlock] at hg
  · simp [Value.ownBlock] at hg
    subst hg
    rw [hgb] at ho
    cases ho
    rfl
theorem own_below {w w' : World} {base e size n m : Nat} {v : Value} {xs : List Value} (h : w.ownsRow base e size v n xs) (hb : Below m w w') (hm : w.heap.size ≤ m) : w'.ownsRow base e size v n xs :=
  ⟨h.1, by
    rcases h.2 with ⟨rfl, hx⟩ | ⟨g, cap, cur, rfl, hg, hgb, rest⟩
    · exact .inl ⟨rfl, hx⟩
    · exact .inr ⟨g, cap, cur, rfl, hg, (hb.block g (Nat.lt_of_lt_of_le (lt_heap hgb) hm)).trans hgb, rest⟩⟩
/-- the indices that have come, q are left: from the end -/
def came (len q : Nat) : List Nat := (List.range' q (len - q)).reverse
theorem came_start (len : Nat) : came len len = [] := by simp [came]
theorem came_succ {len r : Nat} (h : r < len) : came len r = came len (r + 1) ++ [r] := by
  unfold came
  rw [show len - r = (len - (r + 1)) + 1 by omega, List.range'_succ, List.reverse_cons]
theorem came_length {len q : Nat} : (came len q).length = len - q := by simp [came]
theorem IsSl.keepS {w w' : World} {M : Nat → Prop} {sz n : Nat} {v : Value} {f : Nat → Nat → Value} (h : IsSl w M sz v n f) (hk : CellsSame w w') : IsSl w' M sz v n f := by
  obtain ⟨A, c, e, h1, h2, h3⟩ := h
  refine ⟨A, c, e, h1, h2, fun hn => ?_⟩
  obtain ⟨b, off, e, hM, hc⟩ := h3 hn
  exact ⟨b, off, e, hM, fun i j hi hj => hk _ _ (hc i j hi hj)⟩
end Go.Proofs.Ythlnfjbedehjdaa
