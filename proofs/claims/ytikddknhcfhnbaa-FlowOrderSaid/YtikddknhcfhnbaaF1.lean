/- The memory of Paths. -/
import Derived.Test.YtikddknhcfhnbaaO2
import Derived.Test.YtikddknhcfhnbaaZ2
import Derived.Test.YtikddknhcfhnbaaC4
namespace Go.Proofs.Ytikddknhcfhnbaa
open Go.RowKit Go.Deep
/-- the arcs that begin at a vertex -/
def fromT (l : List ArcD) : Nat → Nat → List Int
  | 0, _ => []
  | k + 1, v => updV (fromT l k) (nthA l k).src.toNat (fromT l k (nthA l k).src.toNat ++ [(k : Int)]) v
theorem fromT_len (l : List ArcD) : ∀ k v, (fromT l k v).length ≤ k
  | 0, _ => Nat.le_refl _
  | k + 1, v => by
    have ih := fromT_len l k
    unfold fromT
    by_cases e : v = (nthA l k).src.toNat
    · rw [e, updV_same, List.length_append]
      have := ih (nthA l k).src.toNat
      simp; omega
    · rw [updV_other e]; have := ih v; omega
theorem fromT_mem {n : NetD} {V : Nat} (hn : NOk n V) {u : Nat} {x : Int} : ∀ {k : Nat}, k ≤ n.arcs.length → (x ∈ fromT n.arcs k u ↔ ∃ i : Nat, i < k ∧ x = (i : Int) ∧ (nthA n.arcs i).src = (u : Int))
  | 0, _ => ⟨fun h => absurd h List.not_mem_nil, fun ⟨i, h, _⟩ => absurd h (by omega)⟩
  | k + 1, hk => by
    have ih := fromT_mem hn (u := u) (x := x) (k := k) (by omega)
    obtain ⟨a, b, c, e, -⟩ := hn.arc k (by omega)
    unfold fromT
    by_cases q : u = (nthA n.arcs k).src.toNat
    · rw [q, updV_same, ← q, List.mem_append, List.mem_singleton, ih]
      constructor
      · rintro (⟨i, h1, h2, h3⟩ | h)
        · exact ⟨i, by omega, h2, h3⟩
        · refine ⟨k, by omega, h, ?_⟩
          rw [q, e]; show (a : Int) = ((a : Int).toNat : Int); omega
      · rintro ⟨i, h1, h2, h3⟩
        rcases Nat.lt_or_ge i k with a | a
        · exact .inl ⟨i, a, h2, h3⟩
        · exact .inr (by rw [h2, show i = k by omega])
    · rw [updV_other q, ih]
      constructor
      · rintro ⟨i, h1, h2, h3⟩; exact ⟨i, by omega, h2, h3⟩
      · rintro ⟨i, h1, h2, h3⟩
        refine ⟨i, ?_, h2, h3⟩
        rcases Nat.lt_or_ge i k with a | a
        · exact a
        · obtain rfl : i = k := by omega
          rw [h3] at q; exact absurd rfl q
/-- below B all but the blocks of met and path is as it was; nothing below N has changed -/
structure KF (N B bu bp : Nat) (w w' : World) : Prop where
  bel : Below N w w'
  blk : ∀ k, k < B → k ≠ bu → k ≠ bp → w'.heap[k]? = w.heap[k]?
section
variable {N B bu bp : Nat} {w w' w'' : World}
theorem KF.refl (N B bu bp : Nat) (w : World) : KF N B bu bp w w := ⟨Below.refl _ _, fun _ _ _ _ => rfl⟩
theorem KF.trans (h : KF N B bu bp w w') (k : KF N B bu bp w' w'') : KF N B bu bp w w'' := ⟨h.bel.trans k.bel, fun i a b c => (k.blk i a b c).trans (h.blk i a b c)⟩
theorem KF.drew (h : KF N B bu bp w w') : KF N B bu bp w w'.drew := ⟨h.bel.drew, h.blk⟩
theorem KF.drewN (h : KF N B bu bp w w') (k : Nat) : KF N B bu bp w (w'.drewN k) := ⟨below_drewN h.bel k, fun i a b c => ((below_drewN (Below.refl B w') k).block i a).trans (h.blk i a b c)⟩
theorem KF.setCell (h : KF N B bu bp w w') {b : Nat} (hb : b = bu ∨ b = bp ∨ B ≤ b) (hN : N ≤ b) (j : Nat) (u : Value) : KF N B bu bp w (w'.setCell ⟨b, j, none⟩ u) :=
  ⟨h.bel.setCell hN u, fun k a c d => by rw [heap_set_if, if_neg (by omega)]; exact h.blk k a c d⟩
theorem KF.ofB (hN : N ≤ B) (hb : Below B w w') : KF N B bu bp w w' := ⟨hb.mono hN, fun k a _ _ => hb.block k a⟩
end
/-- what does not change while follow works -/
structure FFW (N B : Nat) (w : World) (n : NetD) (V : Nat) (lf : Nat → Int) (Y : Nat → Value) (bn bm bg bl bp bf bu g lk cl base : Nat) : Prop where
  nb : ∃ va, w.heap[bn]? = some (.cells #[.int .i64 (V : Int), va] 24 (0, 0)) ∧ IsArcs w (fun b => b < B ∧ b ≠ bu ∧ b ≠ bp) va n.arcs
  mb : w.heap[bm]? = some (.cells #[.slice (some ⟨bu, 0, none⟩) V V] 51 (0, 0))
  gb : w.heap[bg]? = some (.cells #[.slice (some ⟨g, 0, none⟩) V V] 38 (0, 0))
  lb : w.heap[bl]? = some (.cells #[.slice (some ⟨lk, 0, none⟩) n.arcs.length cl] 25 (0, 0))
  lr : ∃ cs t, w.heap[lk]? = some (.cells cs t (0, 0)) ∧ ∀ i, i < n.arcs.length → cs[i]? = some (i64v (lf i))
  fb : w.heap[bf]? = some (.cells #[.func (.func 32) #[] #[ptr bn, ptr bm, ptr bg, ptr bl, ptr bp, ptr bf]] 67 (0, 0))
  adj : AdjW w base g V Y (fromT n.arcs n.arcs.length)
  nl : ∀ b ∈ [bn, bm, bg, bl, bf, g, lk], b < B ∧ b ≠ bu ∧ b ≠ bp
  rn : ∀ v, v < V → ∀ b, (Y v).ownBlock = some b → b < B ∧ b ≠ bu ∧ b ≠ bp
  bb : N ≤ bu ∧ N ≤ bp ∧ bu < B ∧ bp < B ∧ bu ≠ bp ∧ N ≤ B
/-- what changes: the vertices met, the path -/
structure DFW (B : Nat) (w : World) (V bu bp : Nat) (met : Nat → Bool) (path : List Int) : Prop where
  met : w.rowIs bu 4 V (fun i => .bool (met i))
  pth : ∃ pv, w.heap[bp]? = some (.cells #[pv] 25 (0, 0)) ∧ w.ownsRow B 3 1 pv path.length (path.map i64v)
  sz : B ≤ w.heap.size
section
variable {N B : Nat} {w w' : World} {n : NetD} {V : Nat} {lf : Nat → Int} {Y : Nat → Value} {bn bm bg bl bp bf bu g lk cl base : Nat} {met : Nat → Bool} {path : List Int}
theorem FFW.kf (h : FFW N B w n V lf Y bn bm bg bl bp bf bu g lk cl base) (k : KF N B bu bp w w') : FFW N B w' n V lf Y bn bm bg bl bp bf bu g lk cl base := by
  have q := fun (b : Nat) (o : Obj) (hb : b ∈ [bn, bm, bg, bl, bf, g, lk]) (ho : w.heap[b]? = some o) => (k.blk b (h.nl b hb).1 (h.nl b hb).2.1 (h.nl b hb).2.2).trans ho
  obtain ⟨va, n1, n2⟩ := h.nb
  obtain ⟨cs, t, l1, l2⟩ := h.lr
  obtain ⟨ds, t2, hg, hgc⟩ := h.adj.box
  refine ⟨⟨va, q _ _ (by simp) n1, n2.keep fun p hM _ => World.cell?_of_block (k.blk _ hM.1 hM.2.1 hM.2.2)⟩, q _ _ (by simp) h.mb, q _ _ (by simp) h.gb, q _ _ (by simp) h.lb, ⟨cs, t, q _ _ (by simp) l1, l2⟩, q _ _ (by simp) h.fb, ?_, h.nl, h.rn, h.bb⟩
  exact ⟨⟨ds, t2, q _ _ (by simp) hg, hgc⟩, fun v hv => own_kept (h.adj.own v hv) fun b hb _ => by have := h.rn v hv b hb; exact k.blk b this.1 this.2.1 this.2.2, h.adj.sep, h.adj.lt⟩
theorem DFW.below (h : DFW B w V bu bp met path) (hb : Below w.heap.size w w') : DFW B w' V bu bp met path := by
  obtain ⟨pv, p1, p2⟩ := h.pth
  exact ⟨h.met.of_block (hb.block _ h.met.lt), ⟨pv, (hb.block _ (lt_heap p1)).trans p1, own_below p2 hb⟩, Nat.le_trans h.sz hb.size⟩
/-- one more is met -/
theorem DFW.meet (h : DFW B w V bu bp met path) (hne : bu ≠ bp) (hB : bu < B) (v : Nat) : DFW B (w.setCell ⟨bu, v, none⟩ (.bool true)) V bu bp (updV met v true) path := by
  obtain ⟨pv, p1, p2⟩ := h.pth
  refine ⟨(h.met.set v _).congr fun i _ => ?_, ⟨pv, by rw [heap_set_if, if_neg fun e => hne e.symm]; exact p1, own_kept p2 fun b hb _ => ?_⟩, by simp [World.setCell]; exact h.sz⟩
  · unfold updV
    split <;> rfl
  · have := (own_lt p2 b hb).1
    rw [heap_set_if, if_neg (by omega)]
/-- the path's box holds another row -/
theorem DFW.setP {w7 : World} (h : DFW B w V bu bp met path) (hne : bu ≠ bp) (hB : bu < B ∧ bp < B) (hk : ∀ k, k < B → w7.heap[k]? = w.heap[k]?) {x : Value} {path' : List Int} (hx : w7.ownsRow B 3 1 x path'.length (path'.map i64v)) (hs : B ≤ w7.heap.size) :
    DFW B (w7.setCell ⟨bp, 0, none⟩ x) V bu bp met path' := by
  obtain ⟨pv, p1, p2⟩ := h.pth
  refine ⟨h.met.of_block (by rw [heap_set_if, if_neg hne]; exact hk _ hB.1), ⟨x, ?_, own_kept hx fun b hb _ => ?_⟩, by simp [World.setCell]; exact hs⟩
  · rw [heap_set_if, if_pos rfl, hk _ hB.2, p1]; rfl
  · have := (own_lt hx b hb).1
    rw [heap_set_if, if_neg (by omega)]
end
/-- an own row, one shorter -/
theorem own_pop {w : World} {base : Nat} {A : Option Addr} {c : Nat} {l : List Int} {x : Int} (h : w.ownsRow base 3 1 (.slice A (l ++ [x]).length c) (l ++ [x]).length ((l ++ [x]).map i64v)) : w.ownsRow base 3 1 (.slice A l.length c) l.length (l.map i64v) := by
  obtain ⟨-, h2⟩ := h
  refine ⟨by simp, ?_⟩
  rcases h2 with ⟨e, h3⟩ | ⟨r, cap, cur, e, hb, hh, h4, h5, h6, h7⟩
  · simp at h3
  · injection e with e1 e2 e3
    subst e1 e3
    rw [List.length_append] at h4 h7
    refine .inr ⟨r, c, cur, rfl, hb, hh, by omega, h5, h6, ?_⟩
    have := congrArg (List.take (l.length * 1)) h7
    rw [List.take_take, Nat.min_eq_left (by omega), List.map_append, List.take_left' (by simp)] at this
    exact this
end Go.Proofs.Ytikddknhcfhnbaa
