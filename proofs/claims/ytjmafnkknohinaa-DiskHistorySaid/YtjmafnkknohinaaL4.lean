import Derived.Test.YtjmafnkknohinaaL3
import Derived.Test.YtjmafnkknohinaaK7
namespace Go.Proofs.Ytjmafnkknohinaa
open Go.RowKit Go.Shelf Go.Deep

theorem Try.info46 : (Try.prog.info? 46).map (fun i => (i.zero, i.size, i.bytes)) = some (some (.agg #[.bool false, .int .u8 0, .int .u8 0]), 3, 3) := by kernel_rfl
theorem blkj {w : World} {g j : Nat} {f : Nat → UInt8} (h : w.heap[g]? = some (.cells (want4 f) 44 (0, 0))) (hj : j < 4) : w.cell? ⟨g, j, none⟩ = some (byt (f j)) ∧ w.frozen? ⟨g, j, none⟩ = false := by
  obtain ⟨⟨h0, h1, h2, h3⟩, ⟨f0, f1, f2, f3⟩⟩ := blk4 (Below.refl _ w) (show w.heap[g]? = some (.cells #[byt (f 0), byt (f 1), byt (f 2), byt (f 3)] 44 (0, 0)) from h) (Nat.lt_succ_self _)
  have : j = 0 ∨ j = 1 ∨ j = 2 ∨ j = 3 := by omega
  rcases this with rfl | rfl | rfl | rfl
  · exact ⟨h0, f0⟩
  · exact ⟨h1, f1⟩
  · exact ⟨h2, f2⟩
  · exact ⟨h3, f3⟩
theorem want4_upd (f : Nat → UInt8) (a : ActD) : (want4 f).setIfInBounds (a.pos.toNat % 4) (byt a.byte) = want4 (upd f a) := by
  have : a.pos.toNat % 4 = 0 ∨ a.pos.toNat % 4 = 1 ∨ a.pos.toNat % 4 = 2 ∨ a.pos.toNat % 4 = 3 := by omega
  unfold want4 upd
  rcases this with h | h | h | h <;> simp [h]
theorem own_blk {w w' : World} {base e sz n gr cap : Nat} {xs : List Value} (h : w.ownsRow base e sz (.slice (some ⟨gr, 0, none⟩) n cap) n xs) (hk : w'.heap[gr]? = w.heap[gr]?) : w'.ownsRow base e sz (.slice (some ⟨gr, 0, none⟩) n cap) n xs := by
  refine ⟨h.1, ?_⟩
  rcases h.2 with h0 | ⟨g, cp, cur, hv, hb, hg, rest⟩
  · exact .inl h0
  · obtain rfl : gr = g := by cases hv; rfl
    exact .inr ⟨gr, cp, cur, hv, hb, hk.trans hg, rest⟩
theorem own_next {WA w7 : World} {gr base n : Nat} {o : Obj} {l0 : List Nat} {v v' : Value} {Z : DiskD} {xs : List Value}
    (hD : IsDisk WA (NB (gr :: l0)) v Z) (hg : (WA.alloc o).grownBy w7 (some gr)) (hb : v'.ownBlock = some gr ∨ v'.ownBlock = some (WA.alloc o).heap.size) (ho : w7.ownsRow base 46 3 v' (n + 1) xs) :
    ∃ gr' cap', v' = .slice (some ⟨gr', 0, none⟩) (n + 1) cap' ∧ base ≤ gr' ∧ gr' < w7.heap.size ∧ IsDisk w7 (NB (gr' :: l0)) v Z ∧ (∀ b, b < WA.heap.size → b ≠ gr → w7.heap[b]? = WA.heap[b]?) ∧ WA.heap.size ≤ w7.heap.size := by
  have hsz : WA.heap.size ≤ w7.heap.size := by have := hg.size; simp at this; omega
  have hk : ∀ b, b < WA.heap.size → b ≠ gr → w7.heap[b]? = WA.heap[b]? := fun b hb hne => (hg.block b (by simp; omega) (by simpa using hne)).trans (Below.heap_alloc _ _ _ hb)
  have kp : Kp (gr :: l0) WA w7 := ⟨hsz, fun k hk' hn => hk k hk' (fun e => hn (by rw [e]; exact List.mem_cons_self))⟩
  rcases ho.2 with ⟨-, h0⟩ | ⟨g, cp, cur, hv, hbb, hgg, _⟩
  · omega
  · subst hv
    refine ⟨g, cp, rfl, hbb, lt_heap hgg, ?_, hk, hsz⟩
    rcases hb with e | e
    · obtain rfl : g = gr := by have : some g = some gr := e; injection this
      exact hD.kp kp
    · have e' : g = WA.heap.size + 1 := by
        have : some g = some (WA.alloc o).heap.size := e
        injection this with this
        simpa using this
      have h2 := (hD.box (n := g) (by omega)).kp (kp.mono (fun b hb => List.mem_cons_of_mem _ hb))
      exact h2.mono fun b _ hM hm => hM (by
        rcases List.mem_cons.1 hm with e | e
        · exact List.mem_cons.2 (.inl e)
        · exact List.mem_cons.2 (.inr (List.mem_cons_of_mem _ e)))
/-- a struct stored into a box, then one cell of an array; a new block -/
theorem state5 {w6 : World} {o : Obj} {g5 g8 j : Nat} {t : TypeId} {a0 a1 a2 a3 b0 b1 b2 b3 u : Value} {cs : Array Value} (h5 : w6.heap[g5]? = some (.cells #[b0, b1, b2, b3] 25 (0, 0))) (h8 : w6.heap[g8]? = some (.cells cs t (0, 0))) (hne : g5 ≠ g8) {B : Nat} (hB5 : B ≤ g5) (hB8 : B ≤ g8) {W : World}
    (hW : W = (((((w6.setCell ⟨g5, 0, none⟩ a0).setCell ⟨g5, 1, none⟩ a1).setCell ⟨g5, 2, none⟩ a2).setCell ⟨g5, 3, none⟩ a3).setCell ⟨g8, j, none⟩ u).alloc o) :
    W.heap[g5]? = some (.cells #[a0, a1, a2, a3] 25 (0, 0)) ∧ W.heap[g8]? = some (.cells (cs.setIfInBounds j u) t (0, 0)) ∧ (∀ b, b < w6.heap.size → b ≠ g5 → b ≠ g8 → W.heap[b]? = w6.heap[b]?) ∧ W.heap.size = w6.heap.size + 1 ∧ Below B w6 W := by
  subst hW
  have l5 := lt_heap h5
  have l8 := lt_heap h8
  refine ⟨?_, ?_, fun b hb h1 h2 => ?_, by simp [World.setCell], ((((((Below.refl _ _).setCell hB5 _).setCell hB5 _).setCell hB5 _).setCell hB5 _).setCell hB8 _).alloc (by simp [World.setCell]; omega) _⟩
  · rw [Below.heap_alloc _ _ _ (by simp [World.setCell]; omega), Below.heap_setCell _ _ _ _ hne]
    exact set4 h5 _ _ _ _
  · rw [Below.heap_alloc _ _ _ (by simp [World.setCell]; omega)]
    refine Blk_set ?_ u
    rw [blk_off4 (fun e => hne e.symm)]
    exact h8
  · rw [Below.heap_alloc _ _ _ (by simp [World.setCell]; omega), Below.heap_setCell _ _ _ _ h2, blk_off4 h1]
theorem state4 {w6 : World} {o : Obj} {g5 : Nat} {a0 a1 a2 a3 b0 b1 b2 b3 : Value} (h5 : w6.heap[g5]? = some (.cells #[b0, b1, b2, b3] 25 (0, 0))) {B : Nat} (hB5 : B ≤ g5) {W : World}
    (hW : W = (((((w6.setCell ⟨g5, 0, none⟩ a0).setCell ⟨g5, 1, none⟩ a1).setCell ⟨g5, 2, none⟩ a2).setCell ⟨g5, 3, none⟩ a3)).alloc o) :
    W.heap[g5]? = some (.cells #[a0, a1, a2, a3] 25 (0, 0)) ∧ (∀ b, b < w6.heap.size → b ≠ g5 → W.heap[b]? = w6.heap[b]?) ∧ W.heap.size = w6.heap.size + 1 ∧ Below B w6 W ∧ W.heap[w6.heap.size]? = some o := by
  subst hW
  have l5 := lt_heap h5
  refine ⟨?_, fun b hb h1 => ?_, by simp [World.setCell], (((((Below.refl _ _).setCell hB5 _).setCell hB5 _).setCell hB5 _).setCell hB5 _).alloc (by simp [World.setCell]; omega) _, by rw [heap_alloc_if, if_pos (by simp [World.setCell])]⟩
  · rw [Below.heap_alloc _ _ _ (by simp [World.setCell]; omega)]
    exact set4 h5 _ _ _ _
  · rw [Below.heap_alloc _ _ _ (by simp [World.setCell]; omega), blk_off4 h1]
def actsFlat (ws : List ActD) : List Value := ws.flatMap fun a => [.bool a.sync, byt a.pos, byt a.byte]
theorem actsFlat_snoc (ws : List ActD) (a : ActD) (h : a.sync = false) : actsFlat ws ++ [.bool false, .int .u8 (a.pos.toNat : Int), .int .u8 (a.byte.toNat : Int)] = actsFlat (ws ++ [a]) := by
  unfold actsFlat
  rw [List.flatMap_append]
  simp [h, byt]
theorem actsFlat_get : ∀ (ws : List ActD) (j : Nat) (h : j < ws.length), (actsFlat ws)[j * 3 + 1]? = some (byt ws[j].pos) ∧ (actsFlat ws)[j * 3 + 2]? = some (byt ws[j].byte)
  | a :: r, 0, _ => ⟨rfl, rfl⟩
  | a :: r, j + 1, h => by
    obtain ⟨h1, h2⟩ := actsFlat_get r j (by simpa using h)
    have e : actsFlat (a :: r) = [.bool a.sync, byt a.pos, byt a.byte] ++ actsFlat r := rfl
    rw [e, show (j + 1) * 3 + 1 = j * 3 + 1 + 3 by omega, show (j + 1) * 3 + 2 = j * 3 + 2 + 3 by omega]
    exact ⟨h1, h2⟩
theorem act_cells {w : World} {base gr cap j : Nat} {ws : List ActD} (h : w.ownsRow base 46 3 (.slice (some ⟨gr, 0, none⟩) ws.length cap) ws.length (actsFlat ws)) (hj : j < ws.length) :
    w.cell? ⟨gr, j * 3 + 1, none⟩ = some (.int .u8 (ws[j].pos.toNat : Int)) ∧ w.cell? ⟨gr, j * 3 + 2, none⟩ = some (.int .u8 (ws[j].byte.toNat : Int)) := by
  obtain ⟨h1, h2⟩ := actsFlat_get ws j hj
  have e : ∀ i, (⟨gr, 0, none⟩ : Addr).add i = ⟨gr, i, none⟩ := fun i => by unfold Addr.add; split <;> simp_all
  have c1 := h.cells (g := gr) rfl _ _ h1
  have c2 := h.cells (g := gr) rfl _ _ h2
  rw [e] at c1 c2
  exact ⟨c1, c2⟩
theorem kept_step {w : World} {g j : Nat} {kept : Nat → UInt8} {ws : List ActD} (h : w.heap[g]? = some (.cells (want4 (keptF kept (ws.take j))) 44 (0, 0))) (hj : j < ws.length) :
    (w.setCell ⟨g, ws[j].pos.toNat % 4, none⟩ (.int .u8 (ws[j].byte.toNat : Int))).heap[g]? = some (.cells (want4 (keptF kept (ws.take (j + 1)))) 44 (0, 0)) := by
  rw [List.take_succ_eq_append_getElem hj, keptF_snoc, ← want4_upd]
  exact Blk_set h _
def eqB (f g : Nat → UInt8) : Bool := f 0 == g 0 && (f 1 == g 1 && (f 2 == g 2 && f 3 == g 3))
theorem eqB_self (f : Nat → UInt8) : eqB f f = true := by simp [eqB]
theorem byt_eq (a b : UInt8) : ((a.toNat : Int) == (b.toNat : Int)) = (a == b) := by
  rw [Bool.eq_iff_iff]; simp [← UInt8.toNat_inj]; omega
theorem Try.guard44 : Try.prog.eqGuardType Try.prog.depth 44 = false := by kernel_rfl
theorem eq44 (f g : Nat → UInt8) (w : World) : (Op.equalIn 10000 44 (.agg #[byt (f 0), byt (f 1), byt (f 2), byt (f 3)]) (.agg #[byt (g 0), byt (g 1), byt (g 2), byt (g 3)])).run Try.prog w = .ok (eqB f g) w := by
  have u3 := Try.underlying5
  have a3 := Try.isAgg5
  have z3 := Try.sizeOf5
  rw [show (10000 : Nat) = 9999 + 1 from rfl, Op.equalIn]
  simp only [Sem.run_bind, run_underlying Try.underlying44, Result.andThen_ok]
  simp only [Std.Legacy.Range.forIn_eq_forIn_range', Std.Legacy.Range.size, Nat.sub_zero, Nat.add_sub_cancel, Nat.div_one, List.range'_succ, List.range'_zero, List.forIn_cons, List.forIn_nil, byt]
  unfold eqB
  rw [← byt_eq, ← byt_eq, ← byt_eq, ← byt_eq]
  generalize ((f 0).toNat : Int) = a0
  generalize ((f 1).toNat : Int) = a1
  generalize ((f 2).toNat : Int) = a2
  generalize ((f 3).toNat : Int) = a3
  generalize ((g 0).toNat : Int) = b0
  generalize ((g 1).toNat : Int) = b1
  generalize ((g 2).toNat : Int) = b2
  generalize ((g 3).toNat : Int) = b3
  go_simp
  by_cases h0 : a0 = b0 <;> by_cases h1 : a1 = b1 <;> by_cases h2 : a2 = b2 <;> by_cases h3 : a3 = b3 <;> simp [h0, h1, h2, h3]
theorem neq44 (f g : Nat → UInt8) (w : World) : (binOp .neq 44 (.agg #[byt (f 0), byt (f 1), byt (f 2), byt (f 3)]) (.agg #[byt (g 0), byt (g 1), byt (g 2), byt (g 3)])).run Try.prog w = .ok (.bool (!eqB f g)) w := by
  rw [run_neq_struct, eq44]; rfl
theorem one_act (p q : Int) : ∀ u ∈ [Value.bool false, .int .u8 p, .int .u8 q], u.oneCell' = true := by
  intro u hu
  simp at hu
  rcases hu with rfl | rfl | rfl <;> rfl
end Go.Proofs.Ytjmafnkknohinaa
