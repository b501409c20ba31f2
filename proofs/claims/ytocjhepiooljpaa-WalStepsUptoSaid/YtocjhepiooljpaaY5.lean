/- Append of a list of records onto a list of records that the call made. -/
import Derived.Test.YtocjhepiooljpaaA22
import Derived.Test.YtocjhepiooljpaaB2
namespace Go.Proofs.Ytocjhepiooljpaa
open Go.RowKit Go.Deep Go.Shelf

theorem flat1_getD {n i : Nat} {vs : Nat → Value} (h : i < n) : (flat 1 n (fun i _ => vs i)).getD i .nilIface = vs i := by
  unfold flat
  rw [List.getD_eq_getElem?_getD, List.getElem?_map, List.getElem?_range (by omega)]
  simp
theorem RowsR.more {w w' : World} {base : Nat} {M : Nat → Prop} {v v' : Value} {ss rs : List (List UInt8)} {vals : List Value} {vs : Nat → Value} (h1 : w.ownsRow base 35 1 v ss.length vals) (h2 : ∀ i, i < ss.length → IsBytes w (fun b => M b ∧ v.ownBlock ≠ some b) (vals.getD i .nilIface) (ss.getD i []))
    (hvs : ∀ i, i < rs.length → IsBytes w M (vs i) (rs.getD i [])) (hM : ∀ b, M b → b < base)
    (hO : w'.ownsRow base 35 1 v' (ss.length + rs.length) (vals ++ flat 1 rs.length (fun i _ => vs i))) (hg : w.grownBy w' v.ownBlock) : RowsR w' base M v' (ss ++ rs) := by
  have hlen : vals.length = ss.length := by have := h1.1; omega
  have hv : ∀ b, M b → v.ownBlock ≠ some b := fun b hb e => by have := own_ge h1 e; have := hM b hb; omega
  have hv' : ∀ b, M b → v'.ownBlock ≠ some b := fun b hb e => by have := own_ge hO e; have := hM b hb; omega
  have tr : ∀ {x : Value} {bs : List UInt8}, IsBytes w M x bs → IsBytes w' (fun k => M k ∧ v'.ownBlock ≠ some k) x bs := fun {x bs} h =>
    (h.keep fun p hp hl => World.cell?_of_block (hg.block p.block hl (fun e => hv _ hp e.symm))).mono fun k _ hk => ⟨hk, hv' k hk⟩
  refine ⟨vals ++ flat 1 rs.length (fun i _ => vs i), by rw [List.length_append]; exact hO, fun i hi => ?_⟩
  rw [List.length_append] at hi
  by_cases hl : i < ss.length
  · have := tr ((h2 i hl).mono fun b _ hb => hb.1)
    simpa [List.getD_eq_getElem?_getD, List.getElem?_append_left hl, List.getElem?_append_left (show i < vals.length by omega)] using this
  · have h3 : i - ss.length < rs.length := by omega
    have := tr (hvs _ h3)
    rw [← flat1_getD (vs := vs) h3] at this
    simpa [List.getD_eq_getElem?_getD, List.getElem?_append_right (show ss.length ≤ i by omega), List.getElem?_append_right (show vals.length ≤ i by omega), hlen] using this
section
variable {o : Oper} {a : Act} {Q : Exit → Act → World → Prop} {w W0 : World} {K : Act → World → Prop} {M : Nat → Prop}
theorem wp_appM (s x : Operand) (ho : o.op = .call { callee := .builtin .append, args := #[s, x], argTypes := #[22, 22] }) (base m : Nat) (v : Value) (ss : List (List UInt8)) (hs : a.eval s = v) (hown : RowsR w base M v ss)
    (A : Option Addr) (n c : Nat) (rs : List (List UInt8)) (hx : a.eval x = .slice A n c) (hn : n = rs.length) (hb : MatC w M A rs) (hM : ∀ b, M b → b < base) (hl : ss.length + rs.length ≤ 2097152) (hbase : base ≤ w.heap.size) (hm : m ≤ base) (hB : Below m W0 w)
    (h : ∀ v' w', Hid (RowsR w' base M v' (ss ++ rs)) → Hid (Below m W0 w') → Hid (base ≤ w'.heap.size) → K (a.put o.dst v') w') : o.wp Try.prog a w K Q := by
  subst hn
  obtain ⟨i, hi, hz0, hz1, hz2⟩ := info_parts Try.infoSl
  obtain ⟨vals, h1, h2⟩ := hown
  obtain ⟨vs, hv1, hv2⟩ := hb
  refine wp_append_cells w s x 22 ho base 35 i (.slice none 0 0) 1 24 Try.underlying22 hi hz0 hz1 hz2 rfl (by decide) v ss.length vals hs h1 A rs.length c (flat 1 rs.length (fun i _ => vs i)) hx (flat_length _ _ _) (cells_flat_any hv1 (by omega) _ (Below.refl _ _)) (one_mat hv2) (by unfold maxLen; omega) (by omega) hbase ?_
  intro v' w' g1 g2 g3
  have h4 : Below m W0 w' := hB.grown g2 (by omega) (fun k e => by
    have := own_ge h1 e
    omega)
  exact h v' w' (RowsR.more h1 h2 hv2 hM g1 g2) h4 (Nat.le_trans hbase g2.size)
end
/-- a log's and a disk's box, before what Sync answered is stored -/
structure ZS (W0 : World) (b10 b11 : Nat) (E : DiskD) (A : Option Addr) (n c : Nat) (sA : Option Addr) (sc : Nat) (pA : Option Addr) (pc : Nat) (W : World) : Prop where
  below : Below W0.heap.size W0 W
  z10 : W.heap[b10]? = some (.cells #[.int .i64 0, .slice none 0 0, .int .i64 0] 29 (0, 0))
  z11 : W.heap[b11]? = some (.cells #[.slice none 0 0, .slice none 0 0, .int .i64 0, .bool false] 25 (0, 0))
  log : IsLog W (NB [b10, b11]) (.agg #[.int .i64 (E.sectors.length : Int), .slice A n c, .int .i64 ((recs E.sectors).length : Int)]) (logOf E [])
  disk : IsDisk W (NB [b10, b11]) (.agg #[.slice sA E.sectors.length sc, .slice pA E.pending.length pc, .int .i64 E.left, .bool E.stopped]) E
  lo10 : W0.heap.size ≤ b10
  lo11 : W0.heap.size ≤ b11
  ne : b10 ≠ b11
/-- and behind that -/
structure BS (W0 : World) (b10 b11 : Nat) (E : DiskD) (A : Option Addr) (n c : Nat) (sA : Option Addr) (sc : Nat) (pA : Option Addr) (pc : Nat) (W : World) : Prop where
  below : Below W0.heap.size W0 W
  b10 : W.heap[b10]? = some (.cells #[.int .i64 (E.sectors.length : Int), .slice A n c, .int .i64 ((recs E.sectors).length : Int)] 29 (0, 0))
  b11 : W.heap[b11]? = some (.cells #[.slice sA E.sectors.length sc, .slice pA E.pending.length pc, .int .i64 E.left, .bool E.stopped] 25 (0, 0))
  log : IsLog W (fun b => b < W.heap.size) (.agg #[.int .i64 (E.sectors.length : Int), .slice A n c, .int .i64 ((recs E.sectors).length : Int)]) (logOf E [])
  disk : IsDisk W (fun b => b < W.heap.size) (.agg #[.slice sA E.sectors.length sc, .slice pA E.pending.length pc, .int .i64 E.left, .bool E.stopped]) E
section
variable {W0 W W' : World} {b10 b11 : Nat} {E : DiskD} {A : Option Addr} {n c : Nat} {sA : Option Addr} {sc : Nat} {pA : Option Addr} {pc : Nat}
theorem ZS.store (h : ZS W0 b10 b11 E A n c sA sc pA pc W) :
    BS W0 b10 b11 E A n c sA sc pA pc (((((((W.setCell ⟨b10, 0, none⟩ (.int .i64 (E.sectors.length : Int))).setCell ⟨b10, 1, none⟩ (.slice A n c)).setCell ⟨b10, 2, none⟩ (.int .i64 ((recs E.sectors).length : Int))).setCell ⟨b11, 0, none⟩ (.slice sA E.sectors.length sc)).setCell ⟨b11, 1, none⟩ (.slice pA E.pending.length pc)).setCell ⟨b11, 2, none⟩ (.int .i64 E.left)).setCell ⟨b11, 3, none⟩ (.bool E.stopped)) := by
  have hne := h.ne
  have h10 := h.lo10
  have h11 := h.lo11
  obtain ⟨W', hW'⟩ : ∃ W', W' = (((((((W.setCell ⟨b10, 0, none⟩ (.int .i64 (E.sectors.length : Int))).setCell ⟨b10, 1, none⟩ (.slice A n c)).setCell ⟨b10, 2, none⟩ (.int .i64 ((recs E.sectors).length : Int))).setCell ⟨b11, 0, none⟩ (.slice sA E.sectors.length sc)).setCell ⟨b11, 1, none⟩ (.slice pA E.pending.length pc)).setCell ⟨b11, 2, none⟩ (.int .i64 E.left)).setCell ⟨b11, 3, none⟩ (.bool E.stopped)) := ⟨_, rfl⟩
  have hk : ∀ p : Addr, NB [b10, b11] p.block → W'.cell? p = W.cell? p := fun p hp => by
    have h0 : p.block ≠ b10 := fun e => hp (by rw [e]; simp)
    have h1 : p.block ≠ b11 := fun e => hp (by rw [e]; simp)
    rw [hW']
    exact ((((((Off.refl b11 _).setCell 0 _).setCell 1 _).setCell 2 _).setCell 3 _) p h1).trans ((((Off.refl b10 W).setCell 0 _).setCell 1 _).setCell 2 _ p h0)
  rw [← hW']
  refine ⟨?_, ?_, ?_, (h.log.keep fun p hp _ => hk p hp).mono fun b hb _ => hb, (h.disk.keep fun p hp _ => hk p hp).mono fun b hb _ => hb⟩
  · rw [hW']
    exact ((((((h.below.setCell h10 _).setCell h10 _).setCell h10 _).setCell h11 _).setCell h11 _).setCell h11 _).setCell h11 _
  · have := Blk_set (Blk_set (Blk_set h.z10 (j := 0) (.int .i64 (E.sectors.length : Int))) (j := 1) (.slice A n c)) (j := 2) (.int .i64 ((recs E.sectors).length : Int))
    rw [hW', heap_set_if, if_neg hne, heap_set_if, if_neg hne, heap_set_if, if_neg hne, heap_set_if, if_neg hne, this]
    rfl
  · rw [hW']
    refine set4 ?_ _ _ _ _ (a := .slice none 0 0) (b := .slice none 0 0) (c := .int .i64 0) (d := .bool false)
    rw [heap_set_if, if_neg hne.symm, heap_set_if, if_neg hne.symm, heap_set_if, if_neg hne.symm]
    exact h.z11
theorem BS.next (h : BS W0 b10 b11 E A n c sA sc pA pc W) (hb : Below W.heap.size W W') : BS W0 b10 b11 E A n c sA sc pA pc W' :=
  ⟨h.below.trans (hb.mono h.below.size), (hb.block _ (lt_heap h.b10)).trans h.b10, (hb.block _ (lt_heap h.b11)).trans h.b11, (h.log.below hb).mono fun _ hlt _ => hlt, (h.disk.below hb).mono fun _ hlt _ => hlt⟩
end
/-- an allocation, one operation among others -/
theorem wpOp_al {P : Program} {y : Nat → Option Bool} {E : Prop} {Q : Exit → Act → World → Prop} {K : Act → World → Prop} {a : Act} {w : World} {o : Oper} {obj : Obj} {d : Option Nat} (hg : o.guard = none) (hd : o.dst = d)
    (hr : ∀ (ev : Operand → Value) (w : World), (execOp ev o).run P w = .ok (.value (.pointer (some ⟨w.heap.size, 0, none⟩))) (w.alloc obj)) (h : K (a.put d (.pointer (some ⟨w.heap.size, 0, none⟩))) (w.alloc obj)) : if Region.wanted o y = true then Oper.wp P o a w K Q else E := by
  rw [if_pos (by simp [Region.wanted, hg])]
  unfold Oper.wp
  rw [hr]
  subst hd
  exact h
theorem run_alL (o : Oper) (ho : o.op = .alloc 29) (ev : Operand → Value) (w : World) : (execOp ev o).run Try.prog w = .ok (.value (.pointer (some ⟨w.heap.size, 0, none⟩))) (w.alloc (.cells #[.int .i64 0, .slice none 0 0, .int .i64 0] 29)) := by
  unfold execOp
  rw [ho]
  go_simp
theorem run_alD (o : Oper) (ho : o.op = .alloc 25) (ev : Operand → Value) (w : World) : (execOp ev o).run Try.prog w = .ok (.value (.pointer (some ⟨w.heap.size, 0, none⟩))) (w.alloc (.cells #[.slice none 0 0, .slice none 0 0, .int .i64 0, .bool false] 25)) := by
  unfold execOp
  rw [ho]
  go_simp
/-- where ways meet within a region -/
theorem join3 {F G : World → Nat → Nat → Option Addr → Nat → Nat → Option Addr → Nat → Nat → Option Addr → Nat → Nat → Option Addr → Nat → Option Addr → Nat → Prop} {goal : Prop} (h1 : (∀ w b b' A n c A' n' c' A2 n2 c2 s sc p pc, F w b b' A n c A' n' c' A2 n2 c2 s sc p pc → G w b b' A n c A' n' c' A2 n2 c2 s sc p pc) → goal) (h2 : ∀ w b b' A n c A' n' c' A2 n2 c2 s sc p pc, F w b b' A n c A' n' c' A2 n2 c2 s sc p pc → G w b b' A n c A' n' c' A2 n2 c2 s sc p pc) : goal := h1 h2
theorem join2 {F G : World → Nat → Nat → Option Addr → Nat → Nat → Option Addr → Nat → Nat → Option Addr → Nat → Option Addr → Nat → Prop} {goal : Prop} (h1 : (∀ w b b' A n c A2 n2 c2 s sc p pc, F w b b' A n c A2 n2 c2 s sc p pc → G w b b' A n c A2 n2 c2 s sc p pc) → goal) (h2 : ∀ w b b' A n c A2 n2 c2 s sc p pc, F w b b' A n c A2 n2 c2 s sc p pc → G w b b' A n c A2 n2 c2 s sc p pc) : goal := h1 h2
end Go.Proofs.Ytocjhepiooljpaa
