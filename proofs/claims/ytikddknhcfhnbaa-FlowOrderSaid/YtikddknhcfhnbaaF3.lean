/- Paths: what its loops keep. -/
import Derived.Test.YtikddknhcfhnbaaF2
import Derived.Test.YtikddknhcfhnbaaV3
namespace Go.Proofs.Ytikddknhcfhnbaa
open Go.RowKit Go.Deep
theorem Try.info_Ls : (Try.prog.info? 25).map (fun i => (i.zero, i.size, i.bytes)) = some (some (.slice none 0 0), 1, 24) := by kernel_rfl
theorem makeRows (n : Nat) (hn : n ≤ 4096) : ∃ cs, (∀ w, (Instr.makeSlice 38 (.int .i64 n) (.int .i64 n)).run Try.prog w = .ok (.slice (some ⟨w.heap.size, 0, none⟩) n n) (w.alloc (.cells cs 25))) ∧ ∀ w : World, (w.alloc (.cells cs 25)).rowIs w.heap.size 25 n (fun _ => .slice none 0 0) :=
  ⟨madeCells #[.slice none 0 0] n, fun w => run_make_row' (P := Try.prog) 38 25 (.slice none 0 0) 24 Try.underlying38 Try.info_Ls rfl .i64 .i64 n (by omega) (by omega) w, fun w => World.rowIs_made w (.slice none 0 0) n 25⟩
theorem AdjW.start {w : World} {base g n : Nat} (h : w.rowIs g 25 n (fun _ => .slice none 0 0)) (hg : g < base) : AdjW w base g n (fun _ => .slice none 0 0) (fun _ => []) := by
  obtain ⟨cs, h1, -, h2⟩ := h
  exact ⟨⟨cs, _, h1, h2⟩, fun _ _ => own_nil _ _ _ _, fun u v _ _ _ b e => (by cases e), hg⟩
/-- a round of the first loop on its way -/
structure RoundF (N base g V b5 : Nat) (W0 wx : World) (cs : Array Value) (Y : Nat → Value) (F : Nat → List Int) : Prop where
  kf : KF N base g g W0 wx
  box : wx.heap[b5]? = some (.cells cs 45 (0, 0))
  adj : AdjW wx base g V Y F
  ne : ∀ v, v < V → ∀ c, (Y v).ownBlock = some c → c ≠ b5
  hb : base ≤ b5
  hg : N ≤ g ∧ g < base
  sz : base ≤ wx.heap.size
section
variable {N base g V b5 : Nat} {W0 W W' w7 : World} {cs : Array Value} {Y : Nat → Value} {F : Nat → List Int}
theorem RoundF.drew (h : RoundF N base g V b5 W0 W cs Y F) : RoundF N base g V b5 W0 W.drew cs Y F :=
  ⟨h.kf.drew, h.box, h.adj.below (below_drewN (Below.refl _ _) 1), h.ne, h.hb, h.hg, h.sz⟩
theorem RoundF.push (h : RoundF N base g V b5 W0 W cs Y F) {a : Nat} (ha : a < V) (hw : Below W.heap.size W W') {x : Value} {y : Int} {bg : Nat} {o : Obj} (hbg : bg < base ∧ bg ≠ g) (hbo : W0.heap[bg]? = some o)
    (H : w7.ownsRow base 3 1 x ((F a).length + 1) ((F a).map i64v ++ [i64v y]) ∧ W'.grownBy w7 (Y a).ownBlock ∧ (x.ownBlock = (Y a).ownBlock ∨ x.ownBlock = some W'.heap.size)) :
    Hid (RoundF N base g V b5 W0 (w7.setCell ⟨g, a, none⟩ x) cs (updV Y a x) (updV F a (F a ++ [y]))) ∧ Hid (w7.heap[b5]? = some (.cells cs 45 (0, 0))) ∧ Hid (w7.heap[bg]? = some o) ∧ w7.cell? ⟨g, a, none⟩ = some (Y a) ∧ w7.frozen? ⟨g, a, none⟩ = false := by
  obtain ⟨H1, H2, H3⟩ := H
  have hl := h.adj.below hw
  have hgl := hl.glt
  have hb5 := lt_heap h.box
  have hrow := hl.own a ha
  have hgN := h.hg
  have hne : (Y a).ownBlock ≠ some g := fun e => by have := (own_lt hrow g e).1; omega
  have e5 : w7.heap[b5]? = some (.cells cs 45 (0, 0)) := ((H2.block b5 (Nat.lt_of_lt_of_le hb5 hw.size) fun e => h.ne a ha b5 e.symm rfl).trans (hw.block b5 hb5)).trans h.box
  have hlow : ∀ k, k < base → w7.heap[k]? = W.heap[k]? := fun k hk => by
    have hkW : k < W.heap.size := Nat.lt_of_lt_of_le hk h.sz
    refine (H2.block k (Nat.lt_of_lt_of_le hkW hw.size) fun e => ?_).trans (hw.block k hkW)
    have := (own_lt hrow k e.symm).1
    omega
  obtain ⟨ds, t, hd, hd2⟩ := h.adj.box
  have eg : w7.heap[g]? = some (.cells ds t (0, 0)) := (hlow g hgN.2).trans hd
  have hb := h.hb
  have hB7 : Below base W w7 := ⟨(H2.os).trans hw.os, (H2.tape).trans hw.tape, (H2.output).trans hw.output, Nat.le_trans hw.size H2.size, hlow⟩
  refine ⟨Lib.hid ⟨?_, ?_, h.adj.push ha hw H1 H2 H3, fun v hv c hc => ?_, h.hb, h.hg, ?_⟩, Lib.hid e5, Lib.hid ((hlow bg hbg.1).trans ((h.kf.blk bg hbg.1 hbg.2 hbg.2).trans hbo)), cell_of eg (hd2 a ha), frz_at eg⟩
  · exact (h.kf.trans (KF.ofB (by omega) hB7)).setCell (.inl rfl) hgN.1 _ _
  · rw [heap_set_if, if_neg (by omega)]; exact e5
  · by_cases e : v = a
    · subst e
      rw [updV_same] at hc
      rcases H3 with q | q
      · exact h.ne v hv c (q ▸ hc)
      · rw [q] at hc; injection hc with hc
        have := hw.size
        omega
    · rw [updV_other e] at hc; exact h.ne v hv c hc
  · have h1 := H2.size
    have h2 := hw.size
    have h3 := h.sz
    simp [World.setCell]; omega
end
/-- the least of a number and what is left of the first k arcs of a path -/
def mnP (lf : Nat → Int) (val : Int) (p : List Int) : Nat → Int
  | 0 => val
  | k + 1 => min (mnP lf val p k) (lf (nthI p k).toNat)
theorem mnP_le {lf : Nat → Int} {val : Int} {p : List Int} : ∀ {k : Nat}, mnP lf val p k ≤ val ∧ (∀ j, j < k → mnP lf val p k ≤ lf (nthI p j).toNat)
  | 0 => ⟨Int.le_refl _, fun _ h => absurd h (by omega)⟩
  | k + 1 => by
    obtain ⟨h1, h2⟩ := mnP_le (lf := lf) (val := val) (p := p) (k := k)
    unfold mnP
    refine ⟨by omega, fun j hj => ?_⟩
    by_cases e : j = k
    · subst e; omega
    · have := h2 j (by omega); omega
theorem mnP_at {lf : Nat → Int} {val : Int} {p : List Int} : ∀ {k : Nat}, mnP lf val p k = val ∨ ∃ j, j < k ∧ lf (nthI p j).toNat = mnP lf val p k
  | 0 => .inl rfl
  | k + 1 => by
    rcases mnP_at (lf := lf) (val := val) (p := p) (k := k) with h | ⟨j, h1, h2⟩
    · unfold mnP
      rcases Int.le_total (mnP lf val p k) (lf (nthI p k).toNat) with q | q
      · left; omega
      · exact .inr ⟨k, by omega, by omega⟩
    · unfold mnP
      rcases Int.le_total (mnP lf val p k) (lf (nthI p k).toNat) with q | q
      · exact .inr ⟨j, by omega, by omega⟩
      · exact .inr ⟨k, by omega, by omega⟩
theorem mnP_lo {lf : Nat → Int} {val : Int} {p : List Int} (h0 : 1 ≤ val) : ∀ {k : Nat}, k ≤ p.length → (∀ x ∈ p, 0 < lf x.toNat) → 1 ≤ mnP lf val p k
  | 0, _, _ => h0
  | k + 1, hk, h => by
    have ih := mnP_lo (lf := lf) (p := p) h0 (k := k) (by omega) h
    have := h (nthI p k) (by rw [nthI_get hk]; exact List.getElem_mem hk)
    unfold mnP
    omega
/-- a step of Paths: the path that was found, with what it can bear -/
theorem step_of {n : NetD} {V : Nat} {lf : Nat → Int} {val : Int} {p : List Int} (hs : SP n V lf (fun _ => false) 0 p) (h0 : 1 ≤ val) : StepP n V lf val p (mnP lf val p p.length) ∧ (mnP lf val p p.length < val → ∃ x ∈ p, lf x.toNat = mnP lf val p p.length) := by
  have hp : ∀ x ∈ p, 0 < lf x.toNat := fun x hx => by
    obtain ⟨i, u, rfl, -, -, -, h⟩ := hs.src rfl x hx
    exact h
  refine ⟨⟨hs, mnP_lo h0 (Nat.le_refl _) hp, mnP_le.1, fun x hx => ?_⟩, fun hlt => ?_⟩
  · obtain ⟨j, hj, rfl⟩ := List.mem_iff_getElem.1 hx
    have := (mnP_le (lf := lf) (val := val) (p := p) (k := p.length)).2 j hj
    rwa [nthI_get hj] at this
  · rcases mnP_at (lf := lf) (val := val) (p := p) (k := p.length) with h | ⟨j, h1, h2⟩
    · omega
    · exact ⟨nthI p j, by rw [nthI_get h1]; exact List.getElem_mem h1, h2⟩
/-- what Paths answers -/
def PathsW (w : World) (n : NetD) (f : List Int) (e : Ending) (w' : World) : Prop :=
  Below w.heap.size w w' ∧ ((valB n f = false ∧ e = .returned (.tuple #[.slice none 0 0, .slice none 0 0, .int .i64 270])) ∨
    (∃ V ps am L W v1 v2 base, NOk n V ∧ valB n f = true ∧ e = .returned (.tuple #[v1, v2, .int .i64 0]) ∧ PathsP n V f ps am L W ∧ W ps.length = 0 ∧ ps.length ≤ n.arcs.length ∧ w.heap.size ≤ base ∧ RowsW w' (fun _ => True) base v1 ps ∧ w'.ownsRow base 3 1 v2 am.length (am.map i64v)))
/-- no arc comes into the first vertex -/
theorem val_nonneg {n : NetD} {V : Nat} {f : List Int} (hn : NOk n V) (h : ∀ k, k < n.arcs.length → 0 ≤ nthI f k) : ∀ {k : Nat}, k ≤ n.arcs.length → 0 ≤ netF n f 0 k
  | 0, _ => Int.le_refl _
  | k + 1, hk => by
    have ih := val_nonneg hn h (k := k) (by omega)
    have h0 := h k (by omega)
    obtain ⟨a, b, c, e, -, hb, -⟩ := hn.arc k (by omega)
    unfold netF
    rw [e]
    dsimp only
    rw [if_neg (show ¬ (b : Int) = 0 by omega)]
    split <;> omega
/-- a flow's own amounts are what is left at first -/
theorem left_start {n : NetD} {V : Nat} {f : List Int} (hn : NOk n V) (h : valB n f = true) : LfP n V f (nthI f) (netF n f 0 n.arcs.length) := by
  obtain ⟨-, -, h3, h4⟩ := valB_parts h
  refine ⟨fun i hi => ⟨(h3 i hi).1, Int.le_refl _⟩, fun v h1 h2 => ?_, (netF_B n f 0 _).symm, val_nonneg hn (fun k hk => (h3 k hk).1) (Nat.le_refl _)⟩
  rw [← netF_B]
  exact h4 v h1 (by rw [hn.vs]; omega)
end Go.Proofs.Ytikddknhcfhnbaa
