/- A range over a function whose rounds all go on, where the round is told of what it is given: the iterator shows R of each yield. -/
import Derived.Test.YtocjhepiooljpaaRf
namespace Go.Proofs.Ytocjhepiooljpaa
open Go.RowKit Go.Shelf

/-- what an iterator owes: it yields xs, of each of which R holds in the world of its yield; between two rounds it changes no block that was there -/
def SeqR {α : Type} (F : Fence) (n : Nat) (P : Program) (gf : Nat) (lb : Array Value) (encs : α → Array Value) (R : List α → α → World → Prop) (Kp : World → World → Prop) (S : List α → Prop) (w : World) : Prop :=
  ∀ (l : Nat) (J : List α → World → Prop) (W : World), Below w.heap.size w W → (∀ pre A B, J pre A → Below A.heap.size A B → J pre B) →
    (∀ pre x W1, J pre W1 → R pre x W1 → YieldAt F (n - 1) P l (encs x) W1 fun e W' => e = .returned (.bool true) ∧ J (pre ++ [x]) W' ∧ Kp W1 W') → J [] W →
    CallsIn F n P gf (#[.func (.yield l) #[] #[]] ++ lb) W fun e W' => (∃ v, e = .returned v) ∧ ∃ xs, S xs ∧ J xs W'
/-- a property of worlds that a loop's record or its deferred calls do not touch -/
def Quiets (B : Nat) (I : World → Prop) : Prop := ∀ (W : World) (l : Nat) (o o' : Obj), B ≤ l → I W → W.heap[l]? = some o → o.isCells = false → I (W.putObj l o')
section
variable {F : Fence} {n : Nat} {P : Program}
theorem wpIn_rangeR {α : Type} {g : Operand} {ps : Array Tmp} {assign body : Code} {Q : Exit → Act → World → Prop} {a : Act} {w : World} (hro : F.round = none) (h1 : 1 ≤ n) {gf : Nat} {lb : Array Value} (hg : a.eval g = .func (.func gf) #[] lb) (hFg : F.fn gf)
    (eg : ∀ args w, (callFunc gf args).run P w = .ok (.enter gf args) w) {encs : α → Array Value} (hps : ∀ x, (encs x).size = ps.size) (I : List α → World → Prop) (R : List α → α → World → Prop) {Kp : World → World → Prop} {S : List α → Prop}
    (hIq : ∀ pre, Quiets w.heap.size (I pre)) (hRq : ∀ pre x, Quiets w.heap.size (R pre x)) (hIb : ∀ pre A B, I pre A → Below A.heap.size A B → I pre B) (h0 : I [] w) (hseq : SeqR F (n - 1) P gf lb encs R Kp S w)
    (hKt : ∀ {A B C : World}, Kp A B → Kp B C → Kp A C) (hKb : ∀ (W : World) (l : Nat) (o o' : Obj), w.heap.size ≤ l → W.heap[l]? = some o → o.isCells = false → o.isWalk = false → Kp W (W.putObj l o')) (a₁ : α → Act)
    (hassign : ∀ (l : Nat) (x : α) (W : World) (K : Act → World → Prop), K (a₁ x) W →
      assign.wpIn (F.inRound l) (n - 1 - 1) P (Exit.then K (fun _ _ _ => False)) { tmps := (ps.zip (encs x)).foldl (fun t (p, v) => t.setIfInBounds p v) a.tmps, defers := [] } W)
    (hbody : ∀ (l : Nat) (pre : List α) (x : α) (W : World), I pre W → R pre x W → body.wpIn (F.inRound l) (n - 1 - 1) P (fun e _ W' => e = .normal ∧ KeepsOthers W W' ∧ Kp W W' ∧ I (pre ++ [x]) W') (a₁ x) W)
    (hdone : ∀ (D : Nat) (xs : List α) (W : World), w.heap.size ≤ D → S xs → I xs W → W.heap[D]? = some (.deferred (some [])) → Q .normal { a with defers := { target := .collected D, args := #[] } :: a.defers } W) :
    (Code.rangeFunc g ps assign body).wpIn F n P Q a w := by
  refine wpIn_rangeFunc ?_
  intro fn hfn
  rw [hro]
  obtain ⟨rec, hrec⟩ : ∃ rec : LoopState → Option Code → Loop, rec = fun st pe => { state := st, pending := pe, fn, tmps := a.tmps, params := ps, assign, body, defers := w.heap.size } := ⟨_, rfl⟩
  obtain ⟨W1, hW1⟩ : ∃ W1, (w.alloc (.deferred (some []))).alloc (.loop (rec .ready none)) = W1 := ⟨_, rfl⟩
  have b1 : Below w.heap.size w W1 := by rw [← hW1]; exact ((Below.refl _ w).alloc (Nat.le_refl _) _).alloc (by simp) _
  have rL : W1.heap[w.heap.size + 1]? = some (.loop (rec .ready none)) := by
    rw [← hW1]; have := World.alloc_heap_new (w.alloc (.deferred (some []))) (.loop (rec .ready none)); rwa [World.size_alloc] at this
  have rD : W1.heap[w.heap.size]? = some (.deferred (some [])) := by
    rw [← hW1]; exact (Below.heap_alloc _ _ _ (by simp)).trans (World.alloc_heap_new w _)
  refine ⟨w.heap.size + 1, [{ target := .collected w.heap.size, args := #[] }], W1, { target := .fn (.func gf) lb, args := #[.func (.yield (w.heap.size + 1)) #[] #[]] }, W1, gf,
    #[.func (.yield (w.heap.size + 1)) #[] #[]] ++ lb, W1, ?_, ?_, ?_, ?_, fun _ => h1, ?_⟩
  · rw [← hW1, hrec]; exact run_enterLoop_outer _ _ _ _ _
  · simp only [resolve, hg]
    simp [go_sem]
  · intro f' hf'; simp [Target.leads] at hf'; subst hf'; exact hFg
  · simp [invoke, go_sem, eg]
  · refine (hseq (w.heap.size + 1) (fun pre W => I pre W ∧ W.heap[w.heap.size + 1]? = some (.loop (rec .ready none)) ∧ W.heap[w.heap.size]? = some (.deferred (some []))) W1 b1
      (fun pre A B h hb => ⟨hIb _ _ _ h.1 hb, (hb.block _ (lt_heap h.2.1)).trans h.2.1, (hb.block _ (lt_heap h.2.2)).trans h.2.2⟩) ?_ ⟨hIb _ _ _ h0 b1, rL, rD⟩).mono ?_
    · rintro pre x W ⟨hi, hl, hk⟩ hR
      have hlt := lt_heap hl
      have hy := run_yield (P := P) (args := encs x) hl (by rw [hrec]; exact hps x)
      rw [hrec] at hy
      refine ⟨fn, _, assign, body, hy, roundIn_of_wpIn hfn (hassign _ x W _ ⟨_, run_beginRound hl (by rw [hrec]), ?_⟩)⟩
      have hl2 : (W.putObj (w.heap.size + 1) (.loop { rec .ready none with state := .busy })).heap[w.heap.size + 1]? = some (.loop { rec .ready none with state := .busy }) := World.putObj_heap_same hlt
      have hk2 : (W.putObj (w.heap.size + 1) (.loop { rec .ready none with state := .busy })).heap[w.heap.size]? = some (.deferred (some [])) := (World.putObj_heap_other (by omega)).trans hk
      have hw2 : Kp W (W.putObj (w.heap.size + 1) (.loop { rec .ready none with state := .busy })) := hKb _ _ _ _ (by omega) hl rfl rfl
      refine wpIn_mono (hbody _ pre x _ (hIq pre _ _ _ _ (by omega) hi hl rfl) (hRq pre x _ _ _ _ (by omega) hR hl rfl)) ?_
      rintro e a3 W3 ⟨rfl, hk3, hkp3, hi3⟩
      have hl3 := hk3.same _ _ hl2 rfl
      have hr := run_endRound (P := P) none hl3
      rw [hrec] at hr
      have hl3' := hl3
      rw [hrec] at hl3'
      refine ⟨_, _, hr, rfl, ⟨hIq _ _ _ _ _ (by omega) hi3 hl3' rfl, ?_, (World.putObj_heap_other (by omega)).trans (hk3.same _ _ hk2 rfl)⟩, hKt (hKt hw2 hkp3) (hKb _ _ _ _ (by omega) hl3' rfl rfl)⟩
      rw [hrec]
      exact World.putObj_heap_same (lt_heap hl3')
    · rintro e W2 ⟨⟨v, rfl⟩, xs, hS, hi, hl, hk⟩
      exact ⟨none, _, by have := run_endLoop (P := P) hl (by rw [hrec]; simp); rw [hrec] at this; exact this, hdone _ xs _ (Nat.le_refl _) hS (hIq _ _ _ _ _ (by omega) hi hl rfl) ((World.putObj_heap_other (by omega)).trans hk)⟩
end
end Go.Proofs.Ytocjhepiooljpaa
