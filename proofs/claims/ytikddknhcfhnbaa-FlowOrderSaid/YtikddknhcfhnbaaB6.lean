/- A queue: a slice of the call's own whose front is cut off, appended to. -/
import Derived.Test.YtikddknhcfhnbaaZ2
import Derived.Test.YtikddknhcfhnbaaB5
import Derived.ArgAppend
namespace Go.Proofs.Ytikddknhcfhnbaa
open Go.RowKit
/-- v holds the ints q, in block b of the call's own -/
structure QueW (w : World) (b : Nat) (v : Value) (q : List Int) : Prop where
  at_ : ∃ off cap cs, v = .slice (some ⟨b, off, none⟩) q.length cap ∧ w.heap[b]? = some (.cells cs 3 (0, 0)) ∧ q.length ≤ cap ∧ cap ≤ maxLen ∧ (0 < cap → off + cap ≤ cs.size) ∧ ∀ j, j < q.length → cs[off + j]? = some (i64v (nthI q j))
section
variable {w w' : World} {b : Nat} {v : Value} {q : List Int}
theorem QueW.lt (h : QueW w b v q) : b < w.heap.size := by
  obtain ⟨off, cap, cs, -, hb, -⟩ := h.at_
  exact lt_heap hb
theorem QueW.of_block (h : QueW w b v q) (hb : w'.heap[b]? = w.heap[b]?) : QueW w' b v q := by
  obtain ⟨off, cap, cs, e, h1, r⟩ := h.at_
  exact ⟨off, cap, cs, e, hb.trans h1, r⟩
theorem QueW.one (w : World) (x : Int) : QueW (w.alloc (.cells #[.int .i64 x] 3)) w.heap.size (.slice (some ⟨w.heap.size, 0, none⟩) 1 1) [x] :=
  ⟨0, 1, #[.int .i64 x], rfl, by rw [heap_alloc_if, if_pos rfl], Nat.le_refl _, by unfold maxLen; omega, fun _ => Nat.le_refl _, fun j hj => by
    have : j = 0 := by simpa using hj
    subst this; rfl⟩
/-- the queue without its first -/
theorem QueW.cut {x : Int} {off n cap : Nat} (h : QueW w b (.slice (some ⟨b, off, none⟩) n cap) (x :: q)) : QueW w b (.slice (if cap = 1 then some ⟨b, off, none⟩ else some ⟨b, off + 1, none⟩) (n - 1) (cap - 1)) q := by
  obtain ⟨off', cap', cs, e, h1, h2, h3, h4, h5⟩ := h.at_
  injection e with e1 e2 e3
  injection e1 with e1
  injection e1 with _ e1
  subst e1 e2 e3
  rw [List.length_cons] at h2 h5
  refine ⟨⟨if cap = 1 then off else off + 1, cap - 1, cs, ?_, h1, by omega, by omega, fun hp => ?_, fun j hj => ?_⟩⟩
  · rw [List.length_cons, Nat.add_sub_cancel]
    split <;> rfl
  · rw [if_neg (by omega)]; have := h4 (by omega); omega
  · rw [if_neg (by omega)]
    have := h5 (j + 1) (by omega)
    rw [show off + 1 + j = off + (j + 1) by omega, this]
    rfl
theorem QueW.cell {off n cap : Nat} (h : QueW w b (.slice (some ⟨b, off, none⟩) n cap) q) {j : Nat} (hj : j < q.length) : w.cell? ⟨b, off + j, none⟩ = some (.int .i64 (nthI q j)) := by
  obtain ⟨off', cap', cs, e, h1, h2, h3, h4, h5⟩ := h.at_
  injection e with e1 e2 e3
  injection e1 with e1
  injection e1 with _ e1
  subst e1
  exact cell_of h1 (h5 j hj)
theorem QueW.own {base : Nat} (h : w.ownsRow base 3 1 v q.length (q.map i64v)) (hq : 0 < q.length) : ∃ b, v.ownBlock = some b ∧ base ≤ b ∧ QueW w b v q := by
  obtain ⟨h1, h2⟩ := h
  rcases h2 with ⟨-, e⟩ | ⟨g, cap, cur, rfl, hb, hh, h3, h4, h5, h6⟩
  · omega
  · refine ⟨g, rfl, hb, ⟨0, cap, cur, rfl, hh, h3, h4, fun _ => by omega, fun j hj => ?_⟩⟩
    have hx : (cur.toList.take (q.length * 1))[j]? = some (i64v (nthI q j)) := by
      rw [h6, List.getElem?_map, List.getElem?_eq_getElem hj, nthI_get hj]; rfl
    rw [List.getElem?_take_of_lt (by omega)] at hx
    rw [Nat.zero_add]
    simpa using hx
/-- cells stored into the queue's room -/
theorem QueW.room {off cap : Nat} {x : Int} (h : QueW w b (.slice (some ⟨b, off, none⟩) q.length cap) q) (hr : q.length + 1 ≤ cap) : QueW (w.setCell ⟨b, off + q.length, none⟩ (i64v x)) b (.slice (some ⟨b, off, none⟩) (q.length + 1) cap) (q ++ [x]) := by
  obtain ⟨off', cap', cs, e, h1, h2, h3, h4, h5⟩ := h.at_
  injection e with e1 e2 e3
  injection e1 with e1
  injection e1 with _ e1
  subst e1 e3
  have hs := h4 (by omega)
  refine ⟨off, cap, cs.setIfInBounds (off + q.length) (i64v x), by rw [List.length_append]; rfl, by rw [heap_set_if, if_pos rfl, h1]; rfl, by rw [List.length_append]; exact hr, h3, fun _ => by rw [Array.size_setIfInBounds]; exact hs, fun j hj => ?_⟩
  rw [List.length_append, List.length_singleton] at hj
  by_cases ej : j = q.length
  · subst ej
    rw [Array.getElem?_setIfInBounds_self_of_lt (by omega)]
    unfold nthI
    simp [List.getD_eq_getElem?_getD]
  · rw [Array.getElem?_setIfInBounds_ne (by omega), h5 j (by omega)]
    unfold nthI
    rw [List.getD_eq_getElem?_getD, List.getD_eq_getElem?_getD, List.getElem?_append_left (by omega)]
/-- where a queue lies and how it grows -/
structure QueG (w w' : World) (b b' : Nat) (v : Value) (q : List Int) : Prop where
  que : QueW w' b' v q
  own : b' = b ∨ w.heap.size ≤ b'
  grow : w.grownBy w' (some b)
theorem wpList_queue {ops : Array Oper} {rest : List Oper} {o : Oper} {a : Act} {Q : Exit → Act → World → Prop} (hg : o.guard = none) (s x : Operand) (hop : o.op = .call { callee := .builtin .append, args := #[s, x], argTypes := #[25, 25] })
    (q : List Int) {off cap : Nat} (hs : a.eval s = .slice (some ⟨b, off, none⟩) q.length cap) (hq : QueW w b (.slice (some ⟨b, off, none⟩) q.length cap) q) {c d : Nat} (y : Int) (hx : a.eval x = .slice (some ⟨c, 0, none⟩) 1 d) (hc : w.cell? ⟨c, 0, none⟩ = some (.int .i64 y)) (hl : q.length < 100000)
    (h : ∀ b' off' cap' w', Hid (QueG w w' b b' (.slice (some ⟨b', off', none⟩) (q.length + 1) cap') (q ++ [y])) → wpList Try.prog ops Q rest (a.put o.dst (.slice (some ⟨b', off', none⟩) (q.length + 1) cap')) w') : wpList Try.prog ops Q (o :: rest) a w := by
  obtain ⟨i, hi, hz, hsz, hb⟩ := info_parts Try.infoI64
  obtain ⟨off', cap', cs, e, h1, h2, h3, h4, h5⟩ := hq.at_
  injection e with e1 e2 e3
  injection e1 with e1
  injection e1 with _ e1
  subst e1 e3
  have hroom : q.length + 1 ≤ cap → off + q.length < cs.size := fun hr => by have := h4 (by omega); omega
  refine wpList_append_arg w hg s x 25 hop 3 i _ 1 8 Try.underlying25 hi hz hsz hb rfl (by decide) b off q.length cap (q.map i64v) hs (by simp) (fun j u hj => ?_) ⟨c, 0, none⟩ 1 d [i64v y] hx rfl (fun j u hj => ?_) (one_i64 y) (fun hr j hj => ?_) (by unfold maxLen; omega) (by omega) (fun hr => ?_) (fun hg v' w' ho hgr => ?_)
  · have hjl : j < q.length := by have := (List.getElem?_eq_some_iff.1 hj).1; simpa using this
    rw [List.getElem?_map, List.getElem?_eq_getElem hjl] at hj
    injection hj with hj
    rw [← hj, ← nthI_get hjl]
    exact hq.cell hjl
  · have hj0 : j = 0 := by have := (List.getElem?_eq_some_iff.1 hj).1; simp at this; exact this
    subst hj0
    have hu : u = i64v y := by simpa using hj.symm
    subst hu
    rw [addr_add]; exact hc
  · have : j = 0 := by simpa using hj
    subst this
    have := hroom hr
    refine ⟨?_, frz_at h1⟩
    simp [World.cell?, h1, this]
  · rw [Nat.mul_one]
    exact h b off cap _ (Lib.hid ⟨hq.room hr, .inl rfl, ⟨rfl, rfl, rfl, by simp [World.setCells, World.setCell], fun k _ hk => by
      show (w.setCell ⟨b, off + q.length, none⟩ (i64v y)).heap[k]? = _
      rw [heap_set_if, if_neg fun e => hk (by rw [e])]⟩⟩)
  · have ho' : w'.ownsRow w.heap.size 3 1 v' (q ++ [y]).length ((q ++ [y]).map i64v) := by
      rw [List.length_append, List.map_append]; exact ho
    obtain ⟨b', e1, hb', hq'⟩ := QueW.own ho' (by simp)
    obtain ⟨A, d', rfl⟩ := own_sl ho
    have hr := ho'.2
    rcases hr with ⟨-, e⟩ | ⟨g, cap2, cur, e, -, -, -⟩
    · simp at e
    · injection e with e2 e3 e4
      subst e2 e4
      have : g = b' := by simpa [Value.ownBlock] using e1
      subst this
      refine h g 0 d' w' (Lib.hid ⟨hq', .inr hb', ⟨hgr.os, hgr.tape, hgr.output, hgr.size, fun k hk _ => hgr.block k hk (by simp)⟩⟩)
end
theorem step_code (w : World) (M : Nat → Prop) (v : Value) (n : NetD) (h : IsNet w M v n) {V : Nat} (hn : NOk n V) {g lb : Nat} {fo bk : Nat → Int} (hl : LeftW w g lb n.arcs.length fo bk) (z : Int) (hz : ixA z < n.arcs.length) :
    Calls Try.prog 29 #[.pointer (some ⟨g, 0, none⟩), v, .int .i64 z] w (PairE w (hdA n z, rmA fo bk z)) := by
  rcases code_cases z with ⟨i, rfl, hi⟩ | ⟨i, rfl, hi⟩
  · rw [hi] at hz
    rw [hdA_fo, rmA_fo]
    exact step_fo w M v n h hl i hz
  · rw [hi] at hz
    rw [hdA_bk, rmA_bk]
    exact step_bk w M v n h hl i hz hn.len
end Go.Proofs.Ytikddknhcfhnbaa
