import Derived.Test.YthlnfjbedehjdaaRf
import Derived.Test.YthlnfjbedehjdaaTk
import Derived.OrdersIn
import Derived.Test.YthlnfjbedehjdaaA17
/- A region that draws its order, in a round: walked as a plain one. -/
namespace Go.Proofs.Ythlnfjbedehjdaa
open Go.RowKit

def noDefer (ops : Array Oper) : Bool := ops.all fun o => match o.op with | .defer _ => false | _ => true
theorem noDefer_at {ops : Array Oper} (h : noDefer ops = true) {i : Nat} {o : Oper} (hi : ops[i]? = some o) : ∀ c, o.op ≠ .defer c := fun c e => by
  unfold noDefer at h
  rw [Array.all_eq_true] at h
  obtain ⟨hlt, rfl⟩ := Array.getElem?_eq_some_iff.1 hi
  have := h i hlt
  rw [e] at this
  cases this
section
variable {P : Program} {ops : Array Oper} {Q : Exit → Act → World → Prop} {md : Region.Mode} {l n : Nat}
theorem rowsIn_wideR {row : String} {args : Array Value} {w : World} {R : Value → World → Prop} (h : Rows P row args w R) : RowsIn (Fence.wide.inRound l) n P row args w R := fun c cs _ => by
  obtain ⟨v, w', r, s⟩ := h c cs
  exact ⟨v, w', r, stepsIn_wide.2 s⟩
theorem operIn_wide {o : Oper} (ho : ∀ c, o.op ≠ .defer c) {a : Act} {w : World} {K : Act → World → Prop} (h : o.wp P a w K Q) : o.wpIn (Fence.wide.inRound l) n P a w K Q := by
  unfold Oper.wp at h
  unfold Oper.wpIn
  refine ⟨fun _ _ => trivial, ?_⟩
  rw [Oper.semAt_eq _ _ _ ho]
  generalize (execOp a.eval o).run P w = r at h
  cases r with
  | ok x w' =>
    cases x <;> simp only [Oper.upon] at h <;> simp only [Oper.uponIn]
    case value => exact h
    case skip => exact h
    case defer => exact h
    case enter f args => exact ⟨fun e => (by cases e), callsIn_wide.2 h⟩
    case row => exact ⟨fun e => (by cases e), rowsIn_wideR h⟩
  | halt x w' =>
    cases x <;> simp only [Oper.upon] at h <;> simp only [Oper.uponIn]
    case panic => exact h
theorem anyIn_round (hnd : noDefer ops = true) (hq : ¬ LetsOut Q) : ∀ (fuel : Nat) (listed : Array Bool) (a : Act) (w : World), wpAny P md ops Q fuel listed a w → wpAnyIn (Fence.wide.inRound l) n P md ops Q fuel listed a w
  | 0, _, _, _, h => h
  | fuel + 1, listed, a, w, h => ⟨h.1, fun i hi => by
    have h1 := h.2 i hi
    unfold wpOp at h1
    unfold wpOpIn
    cases ho : ops[i]? with
    | none => rw [ho] at h1; exact anyIn_round hnd hq fuel _ _ _ h1
    | some o =>
      rw [ho] at h1
      simp only at h1 ⊢
      by_cases hw : Region.wanted o (yielded ops a.tmps) = true
      · rw [if_pos hw] at h1
        rw [if_pos hw]
        rcases h1 with h1 | ⟨_, h1⟩
        · exact Oper.wpIn_mono (fun a w => anyIn_round hnd hq fuel _ a w) (operIn_wide (noDefer_at hnd ho) h1)
        · exact absurd h1 hq
      · rw [if_neg hw] at h1
        rw [if_neg hw]
        exact ⟨fun _ _ => trivial, anyIn_round hnd hq fuel _ _ _ h1⟩⟩
/-- a region that draws, in a round: S holds behind each operation -/
theorem round_region {S : World → Prop} {id : Nat} {a : Act} {w : World} (hm : P.follows .mixedOrders = true) (hnd : noDefer ops = true) (hq : ¬ LetsOut Q) (hS : S w.drew)
    (h : S w.drew → wpAnyH P .any ops Q S ops.size (Array.replicate ops.size false) a w.drew) : (Code.region id ops true).wpIn (Fence.wide.inRound l) n P Q a w :=
  wpIn_region_any hm (anyIn_round hnd hq _ _ _ _ (wpAny_of_held _ _ _ _ (h hS)))
/-- what is asked of a piece that does not panic -/
def calm (Q : Exit → Act → World → Prop) : Exit → Act → World → Prop
  | .normal, a, w => Q .normal a w
  | _, _, _ => False
theorem wp_calm {c : Code} {a : Act} {w : World} (h : c.wp P (calm Q) a w) : c.wp P Q a w := wp_mono h fun e _ _ he => by
  cases e
  case normal => exact he
  all_goals exact he.elim
end
end Go.Proofs.Ythlnfjbedehjdaa
/- A range over a function whose round is told of what it is given and may leave early; all blocks of cells but some are kept between two rounds. -/
namespace Go.Proofs.Ythlnfjbedehjdaa
open Go.RowKit Go.Shelf

/-- every block of cells but those of X is as it was -/
structure KC (X : Nat → Prop) (A B : World) : Prop where
  size : A.heap.size ≤ B.heap.size
  keep : ∀ k o, A.heap[k]? = some o → o.isCells = true → ¬ X k → B.heap[k]? = some o
theorem cell_isCells {w : World} {p : Addr} {v : Value} (h : w.cell? p = some v) : ∃ o, w.heap[p.block]? = some o ∧ o.isCells = true := by
  unfold World.cell? at h
  cases hb : w.heap[p.block]? with
  | none => rw [hb] at h; simp at h
  | some o =>
    rw [hb] at h
    cases o with
    | cells cs t z => exact ⟨_, rfl, rfl⟩
    | _ => simp at h
section
variable {X : Nat → Prop} {A B C : World}
theorem KC.refl (A : World) : KC X A A := ⟨Nat.le_refl _, fun _ _ h _ _ => h⟩
theorem KC.trans (h : KC X A B) (k : KC X B C) : KC X A C := ⟨Nat.le_trans h.size k.size, fun b o hb hc hx => k.keep b o (h.keep b o hb hc hx) hc hx⟩
theorem KC.ofBelow (h : Below A.heap.size A B) : KC X A B := ⟨h.size, fun k _ hb _ _ => (h.block k (lt_heap hb)).trans hb⟩
theorem KC.below (h : KC X A B) (k : Below B.heap.size B C) : KC X A C := h.trans (KC.ofBelow k)
theorem KC.drewN (h : KC X A B) (n : Nat) : KC X A (B.drewN n) := ⟨h.size, h.keep⟩
theorem KC.drew (h : KC X A B) : KC X A B.drew := ⟨h.size, h.keep⟩
theorem KC.setCell (h : KC X A B) {g : Nat} (hg : X g) (j : Nat) (u : Value) : KC X A (B.setCell ⟨g, j, none⟩ u) :=
  h.trans ⟨by simp [World.setCell], fun k o hb _ hx => (Below.heap_setCell _ _ _ _ (fun e => hx (by rw [e]; exact hg))).trans hb⟩
theorem KC.mono {X' : Nat → Prop} (h : KC X A B) (hx : ∀ k, k < A.heap.size → X k → X' k) : KC X' A B := ⟨h.size, fun k o hb hc hk => h.keep k o hb hc fun e => hk (hx k (lt_heap hb) e)⟩
theorem KC.cell (h : KC X A B) {p : Addr} {v : Value} (hv : A.cell? p = some v) (hp : ¬ X p.block) : B.cell? p = some v := by
  obtain ⟨o, ho, hc⟩ := cell_isCells hv
  rw [World.cell?_of_block (w := A) (w' := B) ((h.keep _ _ ho hc hp).trans ho.symm)]
  exact hv
theorem KC.sl (h : KC X A B) {M : Nat → Prop} {sz n : Nat} {v : Value} {f : Nat → Nat → Value} (hM : ∀ b, M b → ¬ X b) (hs : IsSl A M sz v n f) : IsSl B M sz v n f := by
  obtain ⟨A', c, e, h1, h2, h3⟩ := hs
  refine ⟨A', c, e, h1, h2, fun hn => ?_⟩
  obtain ⟨b, off, e, hb, hc⟩ := h3 hn
  exact ⟨b, off, e, hb, fun i j hi hj => h.cell (hc i j hi hj) (hM b hb)⟩
theorem kc_b (W : World) (l : Nat) (o o' : Obj) (h : W.heap[l]? = some o) (hc : o.isCells = false) : KC X W (W.putObj l o') :=
  ⟨by simp, fun k o2 hb h2 _ => (World.putObj_heap_other (fun e => by subst e; rw [h] at hb; cases hb; rw [hc] at h2; cases h2)).trans hb⟩
end
theorem roundIn_wide {n m : Nat} {P : Program} {l f : Nat} {tmps : Array Value} {assign body : Code} {W : World} {R : Ending → World → Prop} (h : RoundIn Fence.wide n P l f tmps assign body W R) : RoundIn Fence.wide m P l f tmps assign body W R :=
  ⟨h.1, fun c cs _ => h.2 c cs (room_wide _)⟩
/-- what an iterator owes: it yields xs, of each of which R holds in the world of its yield, unless a round leaves; between two rounds Kp holds -/
def SeqRS {α : Type} (n : Nat) (P : Program) (gf : Nat) (lb : Array Value) (encs : α → Array Value) (R : List α → α → World → Prop) (Kp : World → World → Prop) (S : List α → Prop) (w : World) : Prop :=
  ∀ (l : Nat) (J : List α → World → Prop) (Jx : World → Prop) (W : World), Below w.heap.size w W → (∀ pre A B, J pre A → Below A.heap.size A B → J pre B) → (∀ A B, Jx A → Below A.heap.size A B → Jx B) →
    (∀ pre x W1, J pre W1 → R pre x W1 → YieldAt Fence.wide (n - 1) P l (encs x) W1 fun e W' => (e = .returned (.bool true) ∧ J (pre ++ [x]) W' ∧ Kp W1 W') ∨ (e = .returned (.bool false) ∧ Jx W' ∧ Kp W1 W')) → J [] W →
    Calls P gf (#[.func (.yield l) #[] #[]] ++ lb) W fun e W' => (∃ v, e = .returned v) ∧ ((∃ xs, S xs ∧ J xs W') ∨ Jx W')
/-- a property of worlds that a loop's record or its deferred calls do not touch -/
def Quiets (B : Nat) (I : World → Prop) : Prop := ∀ (W : World) (l : Nat) (o o' : Obj), B ≤ l → I W → W.heap[l]? = some o → o.isCells = false → I (W.putObj l o')
/-- how the body of a round may be left -/
def postRS {α : Type} (Kp : World → World → Prop) (I : List α → World → Prop) (Ix : Code → World → Prop) (xs : List α) (W : World) : Exit → Act → World → Prop
  | .normal, _, W' => KeepsOthers W W' ∧ Kp W W' ∧ I xs W'
  | .ret, _, W' => KeepsOthers W W' ∧ Kp W W' ∧ Ix .ret W'
  | .exit id, _, W' => KeepsOthers W W' ∧ Kp W W' ∧ Ix (.exit id) W'
  | .goto t, _, W' => KeepsOthers W W' ∧ Kp W W' ∧ Ix (.goto t) W'
  | .panic _, _, _ => False
  | .outgrown, _, _ => False
section
variable {n : Nat} {P : Program}
theorem wpIn_rangeRS {α : Type} {g : Operand} {ps : Array Tmp} {assign body : Code} {Q : Exit → Act → World → Prop} {a : Act} {w : World} {gf : Nat} {lb : Array Value} (hg : a.eval g = .func (.func gf) #[] lb)
    (eg : ∀ args w, (callFunc gf args).run P w = .ok (.enter gf args) w) {encs : α → Array Value} (hps : ∀ x, (encs x).size = ps.size) (I : List α → World → Prop) (Ix : Code → World → Prop) (R : List α → α → World → Prop) {Kp : World → World → Prop} {S : List α → Prop}
    (hIq : ∀ pre, Quiets w.heap.size (I pre)) (hXq : ∀ c, Quiets w.heap.size (Ix c)) (hRq : ∀ pre x, Quiets w.heap.size (R pre x)) (hIb : ∀ pre A B, I pre A → Below A.heap.size A B → I pre B) (hXb : ∀ c A B, Ix c A → Below A.heap.size A B → Ix c B) (h0 : I [] w) (hseq : SeqRS (n - 1) P gf lb encs R Kp S w)
    (hKt : ∀ {A B C : World}, Kp A B → Kp B C → Kp A C) (hKb : ∀ (W : World) (l : Nat) (o o' : Obj), w.heap.size ≤ l → W.heap[l]? = some o → o.isCells = false → o.isWalk = false → Kp W (W.putObj l o')) (a₁ : α → Act)
    (hassign : ∀ (l : Nat) (x : α) (W : World) (K : Act → World → Prop), K (a₁ x) W →
      assign.wpIn (Fence.wide.inRound l) (n - 1 - 1) P (Exit.then K (fun _ _ _ => False)) { tmps := (ps.zip (encs x)).foldl (fun t (p, v) => t.setIfInBounds p v) a.tmps, defers := [] } W)
    (hbody : ∀ (l : Nat) (pre : List α) (x : α) (W : World), I pre W → R pre x W → body.wpIn (Fence.wide.inRound l) (n - 1 - 1) P (postRS Kp I Ix (pre ++ [x]) W) (a₁ x) W)
    (hdone : ∀ (D : Nat) (xs : List α) (W : World), w.heap.size ≤ D → S xs → I xs W → W.heap[D]? = some (.deferred (some [])) → Q .normal { a with defers := { target := .collected D, args := #[] } :: a.defers } W)
    (hstop : ∀ (D : Nat) (c : Code) (W : World), w.heap.size ≤ D → Ix c W → W.heap[D]? = some (.deferred (some [])) → c.wpIn Fence.wide n P Q { a with defers := { target := .collected D, args := #[] } :: a.defers } W) :
    (Code.rangeFunc g ps assign body).wpIn Fence.wide n P Q a w := by
  refine wpIn_rangeFunc ?_
  intro fn hfn
  rw [show Fence.wide.round = none from rfl]
  obtain ⟨rec, hrec⟩ : ∃ rec : LoopState → Option Code → Loop, rec = fun st pe => { state := st, pending := pe, fn, tmps := a.tmps, params := ps, assign, body, defers := w.heap.size } := ⟨_, rfl⟩
  obtain ⟨W1, hW1⟩ : ∃ W1, (w.alloc (.deferred (some []))).alloc (.loop (rec .ready none)) = W1 := ⟨_, rfl⟩
  have b1 : Below w.heap.size w W1 := by rw [← hW1]; exact ((Below.refl _ w).alloc (Nat.le_refl _) _).alloc (by simp) _
  have rL : W1.heap[w.heap.size + 1]? = some (.loop (rec .ready none)) := by
    rw [← hW1]; have := World.alloc_heap_new (w.alloc (.deferred (some []))) (.loop (rec .ready none)); rwa [World.size_alloc] at this
  have rD : W1.heap[w.heap.size]? = some (.deferred (some [])) := by
    rw [← hW1]; exact (Below.heap_alloc _ _ _ (by simp)).trans (World.alloc_heap_new w _)
  refine ⟨w.heap.size + 1, [{ target := .collected w.heap.size, args := #[] }], W1, { target := .fn (.func gf) lb, args := #[.func (.yield (w.heap.size + 1)) #[] #[]] }, W1, gf,
    #[.func (.yield (w.heap.size + 1)) #[] #[]] ++ lb, W1, ?_, ?_, ?_, ?_, fun h => (by cases h), ?_⟩
  · rw [← hW1, hrec]; exact run_enterLoop_outer _ _ _ _ _
  · simp only [resolve, hg]
    simp [go_sem]
  · intro f' hf'; trivial
  · simp [invoke, go_sem, eg]
  · refine callsIn_wide.2 ((hseq (w.heap.size + 1) (fun pre W => I pre W ∧ W.heap[w.heap.size + 1]? = some (.loop (rec .ready none)) ∧ W.heap[w.heap.size]? = some (.deferred (some [])))
      (fun W => ∃ c, Ix c W ∧ W.heap[w.heap.size + 1]? = some (.loop (rec .done (some c))) ∧ W.heap[w.heap.size]? = some (.deferred (some []))) W1 b1
      (fun pre A B h hb => ⟨hIb _ _ _ h.1 hb, (hb.block _ (lt_heap h.2.1)).trans h.2.1, (hb.block _ (lt_heap h.2.2)).trans h.2.2⟩)
      (fun A B h hb => by obtain ⟨c, h1, h2, h3⟩ := h; exact ⟨c, hXb _ _ _ h1 hb, (hb.block _ (lt_heap h2)).trans h2, (hb.block _ (lt_heap h3)).trans h3⟩) ?_ ⟨hIb _ _ _ h0 b1, rL, rD⟩).mono ?_)
    · rintro pre x W ⟨hi, hl, hk⟩ hR
      have hlt := lt_heap hl
      have hy := run_yield (P := P) (args := encs x) hl (by rw [hrec]; exact hps x)
      rw [hrec] at hy
      refine ⟨fn, _, assign, body, hy, roundIn_of_wpIn hfn (hassign _ x W _ ⟨_, run_beginRound hl (by rw [hrec]), ?_⟩)⟩
      have hl2 : (W.putObj (w.heap.size + 1) (.loop { rec .ready none with state := .busy })).heap[w.heap.size + 1]? = some (.loop { rec .ready none with state := .busy }) := World.putObj_heap_same hlt
      have hk2 : (W.putObj (w.heap.size + 1) (.loop { rec .ready none with state := .busy })).heap[w.heap.size]? = some (.deferred (some [])) := (World.putObj_heap_other (by omega)).trans hk
      have hw2 : Kp W (W.putObj (w.heap.size + 1) (.loop { rec .ready none with state := .busy })) := hKb _ _ _ _ (by omega) hl rfl rfl
      refine wpIn_mono (hbody _ pre x _ (hIq pre _ _ _ _ (by omega) hi hl rfl) (hRq pre x _ _ _ _ (by omega) hR hl rfl)) ?_
      have fin : ∀ (jump : Option Code) (W3 : World), KeepsOthers (W.putObj (w.heap.size + 1) (.loop { rec .ready none with state := .busy })) W3 →
          (Instr.endRound (w.heap.size + 1) jump).run P W3 = .ok (.bool jump.isNone) (W3.putObj (w.heap.size + 1) (.loop (rec (if jump.isNone then .ready else .done) jump))) ∧
          W3.heap[w.heap.size + 1]? = some (.loop { rec .ready none with state := .busy }) ∧
          (W3.putObj (w.heap.size + 1) (.loop (rec (if jump.isNone then .ready else .done) jump))).heap[w.heap.size + 1]? = some (.loop (rec (if jump.isNone then .ready else .done) jump)) ∧
          (W3.putObj (w.heap.size + 1) (.loop (rec (if jump.isNone then .ready else .done) jump))).heap[w.heap.size]? = some (.deferred (some [])) := fun jump W3 hk3 => by
        have hl3 := hk3.same _ _ hl2 rfl
        have := run_endRound (P := P) jump hl3
        rw [hrec] at this ⊢
        exact ⟨this, by rw [hrec] at hl3; exact hl3, World.putObj_heap_same (lt_heap hl3), (World.putObj_heap_other (by omega)).trans (hk3.same _ _ hk2 rfl)⟩
      rintro e a3 W3 hp
      cases e with
      | normal =>
        obtain ⟨hk3, hkp3, hi3⟩ := hp
        obtain ⟨hr, hl3, hl4, hk4⟩ := fin none W3 hk3
        exact ⟨_, _, hr, .inl ⟨rfl, ⟨hIq _ _ _ _ _ (by omega) hi3 hl3 rfl, hl4, hk4⟩, hKt (hKt hw2 hkp3) (hKb _ _ _ _ (by omega) hl3 rfl rfl)⟩⟩
      | ret =>
        obtain ⟨hk3, hkp3, hi3⟩ := hp
        obtain ⟨hr, hl3, hl4, hk4⟩ := fin (some (.ret)) W3 hk3
        exact ⟨_, _, hr, .inr ⟨rfl, ⟨.ret, hXq _ _ _ _ _ (by omega) hi3 hl3 rfl, hl4, hk4⟩, hKt (hKt hw2 hkp3) (hKb _ _ _ _ (by omega) hl3 rfl rfl)⟩⟩
      | exit id =>
        obtain ⟨hk3, hkp3, hi3⟩ := hp
        obtain ⟨hr, hl3, hl4, hk4⟩ := fin (some (.exit id)) W3 hk3
        exact ⟨_, _, hr, .inr ⟨rfl, ⟨.exit id, hXq _ _ _ _ _ (by omega) hi3 hl3 rfl, hl4, hk4⟩, hKt (hKt hw2 hkp3) (hKb _ _ _ _ (by omega) hl3 rfl rfl)⟩⟩
      | goto t =>
        obtain ⟨hk3, hkp3, hi3⟩ := hp
        obtain ⟨hr, hl3, hl4, hk4⟩ := fin (some (.goto t)) W3 hk3
        exact ⟨_, _, hr, .inr ⟨rfl, ⟨.goto t, hXq _ _ _ _ _ (by omega) hi3 hl3 rfl, hl4, hk4⟩, hKt (hKt hw2 hkp3) (hKb _ _ _ _ (by omega) hl3 rfl rfl)⟩⟩
      | panic ch => exact hp.elim
      | outgrown => exact hp.elim
    · rintro e W2 ⟨⟨v, rfl⟩, (⟨xs, hS, hi, hl, hk⟩ | ⟨c, hi, hl, hk⟩)⟩
      · exact ⟨none, _, by have := run_endLoop (P := P) hl (by rw [hrec]; simp); rw [hrec] at this; exact this, hdone _ xs _ (Nat.le_refl _) hS (hIq _ _ _ _ _ (by omega) hi hl rfl) ((World.putObj_heap_other (by omega)).trans hk)⟩
      · exact ⟨some c, _, by have := run_endLoop (P := P) hl (by rw [hrec]; simp); rw [hrec] at this; exact this, hstop _ c _ (Nat.le_refl _) (hXq _ _ _ _ _ (by omega) hi hl rfl) ((World.putObj_heap_other (by omega)).trans hk)⟩
end
end Go.Proofs.Ythlnfjbedehjdaa
/- The same for an iterator that writes memory of its own between two rounds. -/
namespace Go.Proofs.Ythlnfjbedehjdaa
open Go.RowKit Go.Shelf

/-- what an iterator that writes its own memory owes: it yields xs, of each of which R holds in the world of its yield, unless a round leaves; between two rounds Kp holds -/
def SeqRT {α : Type} (n : Nat) (P : Program) (gf : Nat) (lb : Array Value) (encs : α → Array Value) (R : List α → α → World → Prop) (Kp : World → World → Prop) (S : List α → Prop) (w : World) : Prop :=
  ∀ (l : Nat) (J : List α → World → Prop) (Jx : World → Prop) (W : World), Below w.heap.size w W → (∀ pre A B, J pre A → Below W.heap.size A B → J pre B) → (∀ A B, Jx A → Below W.heap.size A B → Jx B) →
    (∀ pre x W1, J pre W1 → R pre x W1 → YieldAt Fence.wide (n - 1) P l (encs x) W1 fun e W' => (e = .returned (.bool true) ∧ J (pre ++ [x]) W' ∧ Kp W1 W') ∨ (e = .returned (.bool false) ∧ Jx W' ∧ Kp W1 W')) → J [] W →
    Calls P gf (#[.func (.yield l) #[] #[]] ++ lb) W fun e W' => (∃ v, e = .returned v) ∧ ((∃ xs, S xs ∧ J xs W') ∨ Jx W')
section
variable {n : Nat} {P : Program}
theorem wpIn_rangeRT {α : Type} {g : Operand} {ps : Array Tmp} {assign body : Code} {Q : Exit → Act → World → Prop} {a : Act} {w : World} {gf : Nat} {lb : Array Value} (hg : a.eval g = .func (.func gf) #[] lb)
    (eg : ∀ args w, (callFunc gf args).run P w = .ok (.enter gf args) w) {encs : α → Array Value} (hps : ∀ x, (encs x).size = ps.size) (I : List α → World → Prop) (Ix : Code → World → Prop) (R : List α → α → World → Prop) {Kp : World → World → Prop} {S : List α → Prop}
    (hIq : ∀ pre, Quiets w.heap.size (I pre)) (hXq : ∀ c, Quiets w.heap.size (Ix c)) (hRq : ∀ pre x, Quiets w.heap.size (R pre x)) (hIb : ∀ pre A B, I pre A → Below (w.heap.size + 1 + 1) A B → I pre B) (hXb : ∀ c A B, Ix c A → Below (w.heap.size + 1 + 1) A B → Ix c B) (h0 : ∀ W, Below w.heap.size w W → I [] W) (hseq : SeqRT (n - 1) P gf lb encs R Kp S w)
    (hKt : ∀ {A B C : World}, Kp A B → Kp B C → Kp A C) (hKb : ∀ (W : World) (l : Nat) (o o' : Obj), w.heap.size ≤ l → W.heap[l]? = some o → o.isCells = false → o.isWalk = false → Kp W (W.putObj l o')) (a₁ : α → Act)
    (hassign : ∀ (l : Nat) (x : α) (W : World) (K : Act → World → Prop), K (a₁ x) W →
      assign.wpIn (Fence.wide.inRound l) (n - 1 - 1) P (Exit.then K (fun _ _ _ => False)) { tmps := (ps.zip (encs x)).foldl (fun t (p, v) => t.setIfInBounds p v) a.tmps, defers := [] } W)
    (hbody : ∀ (l : Nat) (pre : List α) (x : α) (W : World), I pre W → R pre x W → body.wpIn (Fence.wide.inRound l) (n - 1 - 1) P (postRS Kp I Ix (pre ++ [x]) W) (a₁ x) W)
    (hdone : ∀ (D : Nat) (xs : List α) (W : World), w.heap.size ≤ D → S xs → I xs W → W.heap[D]? = some (.deferred (some [])) → Q .normal { a with defers := { target := .collected D, args := #[] } :: a.defers } W)
    (hstop : ∀ (D : Nat) (c : Code) (W : World), w.heap.size ≤ D → Ix c W → W.heap[D]? = some (.deferred (some [])) → c.wpIn Fence.wide n P Q { a with defers := { target := .collected D, args := #[] } :: a.defers } W) :
    (Code.rangeFunc g ps assign body).wpIn Fence.wide n P Q a w := by
  refine wpIn_rangeFunc ?_
  intro fn hfn
  rw [show Fence.wide.round = none from rfl]
  obtain ⟨rec, hrec⟩ : ∃ rec : LoopState → Option Code → Loop, rec = fun st pe => { state := st, pending := pe, fn, tmps := a.tmps, params := ps, assign, body, defers := w.heap.size } := ⟨_, rfl⟩
  obtain ⟨W1, hW1⟩ : ∃ W1, (w.alloc (.deferred (some []))).alloc (.loop (rec .ready none)) = W1 := ⟨_, rfl⟩
  have b1 : Below w.heap.size w W1 := by rw [← hW1]; exact ((Below.refl _ w).alloc (Nat.le_refl _) _).alloc (by simp) _
  have rL : W1.heap[w.heap.size + 1]? = some (.loop (rec .ready none)) := by
    rw [← hW1]; have := World.alloc_heap_new (w.alloc (.deferred (some []))) (.loop (rec .ready none)); rwa [World.size_alloc] at this
  have rD : W1.heap[w.heap.size]? = some (.deferred (some [])) := by
    rw [← hW1]; exact (Below.heap_alloc _ _ _ (by simp)).trans (World.alloc_heap_new w _)
  have hz1 : W1.heap.size = w.heap.size + 1 + 1 := by rw [← hW1]; simp
  refine ⟨w.heap.size + 1, [{ target := .collected w.heap.size, args := #[] }], W1, { target := .fn (.func gf) lb, args := #[.func (.yield (w.heap.size + 1)) #[] #[]] }, W1, gf,
    #[.func (.yield (w.heap.size + 1)) #[] #[]] ++ lb, W1, ?_, ?_, ?_, ?_, fun h => (by cases h), ?_⟩
  · rw [← hW1, hrec]; exact run_enterLoop_outer _ _ _ _ _
  · simp only [resolve, hg]
    simp [go_sem]
  · intro f' hf'; trivial
  · simp [invoke, go_sem, eg]
  · refine callsIn_wide.2 ((hseq (w.heap.size + 1) (fun pre W => I pre W ∧ W.heap[w.heap.size + 1]? = some (.loop (rec .ready none)) ∧ W.heap[w.heap.size]? = some (.deferred (some [])))
      (fun W => ∃ c, Ix c W ∧ W.heap[w.heap.size + 1]? = some (.loop (rec .done (some c))) ∧ W.heap[w.heap.size]? = some (.deferred (some []))) W1 b1
      (fun pre A B h hb => ⟨hIb _ _ _ h.1 (by rw [← hz1]; exact hb), (hb.block _ (by omega)).trans h.2.1, (hb.block _ (by omega)).trans h.2.2⟩)
      (fun A B h hb => by obtain ⟨c, h1, h2, h3⟩ := h; exact ⟨c, hXb _ _ _ h1 (by rw [← hz1]; exact hb), (hb.block _ (by omega)).trans h2, (hb.block _ (by omega)).trans h3⟩) ?_ ⟨h0 _ b1, rL, rD⟩).mono ?_)
    · rintro pre x W ⟨hi, hl, hk⟩ hR
      have hlt := lt_heap hl
      have hy := run_yield (P := P) (args := encs x) hl (by rw [hrec]; exact hps x)
      rw [hrec] at hy
      refine ⟨fn, _, assign, body, hy, roundIn_of_wpIn hfn (hassign _ x W _ ⟨_, run_beginRound hl (by rw [hrec]), ?_⟩)⟩
      have hl2 : (W.putObj (w.heap.size + 1) (.loop { rec .ready none with state := .busy })).heap[w.heap.size + 1]? = some (.loop { rec .ready none with state := .busy }) := World.putObj_heap_same hlt
      have hk2 : (W.putObj (w.heap.size + 1) (.loop { rec .ready none with state := .busy })).heap[w.heap.size]? = some (.deferred (some [])) := (World.putObj_heap_other (by omega)).trans hk
      have hw2 : Kp W (W.putObj (w.heap.size + 1) (.loop { rec .ready none with state := .busy })) := hKb _ _ _ _ (by omega) hl rfl rfl
      refine wpIn_mono (hbody _ pre x _ (hIq pre _ _ _ _ (by omega) hi hl rfl) (hRq pre x _ _ _ _ (by omega) hR hl rfl)) ?_
      have fin : ∀ (jump : Option Code) (W3 : World), KeepsOthers (W.putObj (w.heap.size + 1) (.loop { rec .ready none with state := .busy })) W3 →
          (Instr.endRound (w.heap.size + 1) jump).run P W3 = .ok (.bool jump.isNone) (W3.putObj (w.heap.size + 1) (.loop (rec (if jump.isNone then .ready else .done) jump))) ∧
          W3.heap[w.heap.size + 1]? = some (.loop { rec .ready none with state := .busy }) ∧
          (W3.putObj (w.heap.size + 1) (.loop (rec (if jump.isNone then .ready else .done) jump))).heap[w.heap.size + 1]? = some (.loop (rec (if jump.isNone then .ready else .done) jump)) ∧
          (W3.putObj (w.heap.size + 1) (.loop (rec (if jump.isNone then .ready else .done) jump))).heap[w.heap.size]? = some (.deferred (some [])) := fun jump W3 hk3 => by
        have hl3 := hk3.same _ _ hl2 rfl
        have := run_endRound (P := P) jump hl3
        rw [hrec] at this ⊢
        exact ⟨this, by rw [hrec] at hl3; exact hl3, World.putObj_heap_same (lt_heap hl3), (World.putObj_heap_other (by omega)).trans (hk3.same _ _ hk2 rfl)⟩
      rintro e a3 W3 hp
      cases e with
      | normal =>
        obtain ⟨hk3, hkp3, hi3⟩ := hp
        obtain ⟨hr, hl3, hl4, hk4⟩ := fin none W3 hk3
        exact ⟨_, _, hr, .inl ⟨rfl, ⟨hIq _ _ _ _ _ (by omega) hi3 hl3 rfl, hl4, hk4⟩, hKt (hKt hw2 hkp3) (hKb _ _ _ _ (by omega) hl3 rfl rfl)⟩⟩
      | ret =>
        obtain ⟨hk3, hkp3, hi3⟩ := hp
        obtain ⟨hr, hl3, hl4, hk4⟩ := fin (some (.ret)) W3 hk3
        exact ⟨_, _, hr, .inr ⟨rfl, ⟨.ret, hXq _ _ _ _ _ (by omega) hi3 hl3 rfl, hl4, hk4⟩, hKt (hKt hw2 hkp3) (hKb _ _ _ _ (by omega) hl3 rfl rfl)⟩⟩
      | exit id =>
        obtain ⟨hk3, hkp3, hi3⟩ := hp
        obtain ⟨hr, hl3, hl4, hk4⟩ := fin (some (.exit id)) W3 hk3
        exact ⟨_, _, hr, .inr ⟨rfl, ⟨.exit id, hXq _ _ _ _ _ (by omega) hi3 hl3 rfl, hl4, hk4⟩, hKt (hKt hw2 hkp3) (hKb _ _ _ _ (by omega) hl3 rfl rfl)⟩⟩
      | goto t =>
        obtain ⟨hk3, hkp3, hi3⟩ := hp
        obtain ⟨hr, hl3, hl4, hk4⟩ := fin (some (.goto t)) W3 hk3
        exact ⟨_, _, hr, .inr ⟨rfl, ⟨.goto t, hXq _ _ _ _ _ (by omega) hi3 hl3 rfl, hl4, hk4⟩, hKt (hKt hw2 hkp3) (hKb _ _ _ _ (by omega) hl3 rfl rfl)⟩⟩
      | panic ch => exact hp.elim
      | outgrown => exact hp.elim
    · rintro e W2 ⟨⟨v, rfl⟩, (⟨xs, hS, hi, hl, hk⟩ | ⟨c, hi, hl, hk⟩)⟩
      · exact ⟨none, _, by have := run_endLoop (P := P) hl (by rw [hrec]; simp); rw [hrec] at this; exact this, hdone _ xs _ (Nat.le_refl _) hS (hIq _ _ _ _ _ (by omega) hi hl rfl) ((World.putObj_heap_other (by omega)).trans hk)⟩
      · exact ⟨some c, _, by have := run_endLoop (P := P) hl (by rw [hrec]; simp); rw [hrec] at this; exact this, hstop _ c _ (Nat.le_refl _) (hXq _ _ _ _ _ (by omega) hi hl rfl) ((World.putObj_heap_other (by omega)).trans hk)⟩
end
end Go.Proofs.Ythlnfjbedehjdaa
/- Sets of k elements of a list, in lexicographic order; rivals. No program here. -/
namespace Go.Proofs.Ythlnfjbedehjdaa
/-- all lists of k elements of a list, in its order -/
def comb : List Int → Nat → List (List Int)
  | _, 0 => [[]]
  | [], _ + 1 => []
  | x :: l, k + 1 => (comb l k).map (x :: ·) ++ comb l (k + 1)
theorem comb_zero (l : List Int) : comb l 0 = [[]] := by cases l <;> rfl
theorem comb_cons (x : Int) (l : List Int) (k : Nat) : comb (x :: l) (k + 1) = (comb l k).map (x :: ·) ++ comb l (k + 1) := rfl
theorem comb_few : ∀ (l : List Int) (k : Nat), l.length < k → comb l k = []
  | l, 0, h => absurd h (by omega)
  | [], k + 1, _ => rfl
  | x :: l, k + 1, h => by
    rw [List.length_cons] at h
    rw [comb_cons, comb_few l k (by omega), comb_few l (k + 1) (by omega)]; rfl
theorem comb_drop {l : List Int} {i : Nat} (h : i < l.length) (k : Nat) : comb (l.drop i) (k + 1) = (comb (l.drop (i + 1)) k).map (nthI l i :: ·) ++ comb (l.drop (i + 1)) (k + 1) := by
  rw [List.drop_eq_getElem_cons h, comb_cons, nthI_get h]
theorem comb_pow : ∀ (l : List Int) (k : Nat), (comb l k).length ≤ 2 ^ l.length
  | l, 0 => by rw [comb_zero]; exact Nat.one_le_two_pow
  | [], k + 1 => by simp [comb]
  | x :: l, k + 1 => by
    have h1 := comb_pow l k
    have h2 := comb_pow l (k + 1)
    rw [comb_cons, List.length_append, List.length_map, List.length_cons, Nat.pow_succ]
    omega
theorem comb_length : ∀ (l : List Int) (k : Nat), ∀ s ∈ comb l k, s.length = k
  | l, 0, s, h => by rw [comb_zero] at h; rw [List.mem_singleton.1 h]; rfl
  | [], k + 1, s, h => by cases h
  | x :: l, k + 1, s, h => by
    rw [comb_cons, List.mem_append, List.mem_map] at h
    rcases h with ⟨t, ht, rfl⟩ | h
    · rw [List.length_cons, comb_length l k t ht]
    · exact comb_length l (k + 1) s h
/-- the rivals among the first k clubs -/
def rivTo (q : RaceD) (k : Nat) : List Int := ((List.range k).filter fun (i : Nat) => decide ((i : Int) ≠ q.club)).map fun (i : Nat) => (i : Int)
def rivR (q : RaceD) : List Int := rivTo q q.clubs.length
theorem rivTo_zero (q : RaceD) : rivTo q 0 = [] := rfl
theorem rivTo_yes {q : RaceD} {k : Nat} (h : (k : Int) ≠ q.club) : rivTo q (k + 1) = rivTo q k ++ [(k : Int)] := by
  unfold rivTo; rw [List.range_succ, List.filter_append, List.map_append]; simp [h]
theorem rivTo_no {q : RaceD} {k : Nat} (h : (k : Int) = q.club) : rivTo q (k + 1) = rivTo q k := by
  unfold rivTo; rw [List.range_succ, List.filter_append, List.map_append]; simp [h]
theorem rivTo_le (q : RaceD) (k : Nat) : (rivTo q k).length ≤ k := by
  unfold rivTo; rw [List.length_map]; exact Nat.le_trans (List.length_filter_le _ _) (Nat.le_of_eq List.length_range)
theorem rivTo_lt {q : RaceD} {k : Nat} (h0 : 0 ≤ q.club) (h : q.club < k) : (rivTo q k).length + 1 = k := by
  induction k with
  | zero => omega
  | succ k ih =>
    by_cases e : (k : Int) = q.club
    · rw [rivTo_no e]
      have : (rivTo q k).length = k := by
        unfold rivTo
        rw [List.length_map, List.filter_eq_self.2, List.length_range]
        intro i hi
        rw [decide_eq_true_eq]
        have := List.mem_range.1 hi
        omega
      omega
    · rw [rivTo_yes e, List.length_append, List.length_singleton, ih (by omega)]
/-- what a range over the sets yields -/
structure Sy where
  val : Value
  set : List Int
def encS (x : Sy) : Array Value := #[x.val]
/-- the slice of a yield lies outside of X and is the next of L -/
def RSy (X : Nat → Prop) (L : List (List Int)) (pre : List Sy) (x : Sy) (W : World) : Prop := (∃ rest, L = pre.map Sy.set ++ x.set :: rest) ∧ IsInts W (fun b => ¬ X b) x.val x.set
theorem RSy.quiet (X : Nat → Prop) (L : List (List Int)) (B : Nat) (pre : List Sy) (x : Sy) : Quiets B (RSy X L pre x) := fun W l o o' _ h hl hc => ⟨h.1, KC.sl (X := X) (kc_b W l o o' hl hc) (fun _ h => h) h.2⟩
end Go.Proofs.Ythlnfjbedehjdaa
