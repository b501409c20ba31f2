import Derived.Test.YtbkgkgigcohbpaaH2
import Derived.Deep.RegionLaw
namespace Go.Proofs.Ytbkgkgigcohbpaa
open Go.RowKit
theorem own_sl {w : World} {base e sz n : Nat} {v : Value} {xs : List Value} (h : w.ownsRow base e sz v n xs) : ∃ A c, v = .slice A n c := by
  obtain ⟨-, h2⟩ := h
  rcases h2 with ⟨rfl, rfl⟩ | ⟨b, cap, cur, rfl, -⟩
  · exact ⟨none, 0, rfl⟩
  · exact ⟨_, _, rfl⟩
theorem with_fact {p q : Prop} (h : p) (k : Hid p → q) : q := k h
/-- two own rows of ints, apart -/
structure Two (w : World) (base : Nat) (v1 : Value) (n1 : Nat) (xs1 : List Value) (v2 : Value) (n2 : Nat) (xs2 : List Value) : Prop where
  one : w.ownsRow base 3 1 v1 n1 xs1
  two : w.ownsRow base 3 1 v2 n2 xs2
  ne : ∀ k, v1.ownBlock = some k → v2.ownBlock ≠ some k
namespace Two
variable {w w' : World} {base n1 n2 m : Nat} {v1 v2 v' : Value} {xs1 xs2 ys : List Value}
theorem alloc (h : Two w base v1 n1 xs1 v2 n2 xs2) (o : Obj) : Two (w.alloc o) base v1 n1 xs1 v2 n2 xs2 := ⟨h.one.alloc o, h.two.alloc o, h.ne⟩
theorem drew (h : Two w base v1 n1 xs1 v2 n2 xs2) : Two w.drew base v1 n1 xs1 v2 n2 xs2 := ⟨h.one.drew, h.two.drew, h.ne⟩
theorem swap (h : Two w base v1 n1 xs1 v2 n2 xs2) : Two w base v2 n2 xs2 v1 n1 xs1 := ⟨h.two, h.one, fun k e1 e2 => h.ne k e2 e1⟩
theorem setCell (h : Two w base v1 n1 xs1 v2 n2 xs2) {g : Nat} {cs : Array Value} {t : TypeId} (hg : w.heap[g]? = some (.cells cs t (0, 0))) (ht : t ≠ 3) (j : Nat) (u : Value) : Two (w.setCell ⟨g, j, none⟩ u) base v1 n1 xs1 v2 n2 xs2 := by
  have k1 : ∀ {v : Value} {n : Nat} {xs : List Value}, w.ownsRow base 3 1 v n xs → v.ownBlock ≠ some g := by
    rintro v n xs ⟨-, h2⟩
    rcases h2 with ⟨rfl, -⟩ | ⟨b, cap, cur, rfl, -, hh, -⟩
    · simp [Value.ownBlock]
    · intro e
      have e' : b = g := by simpa [Value.ownBlock] using e
      rw [e', hg] at hh
      injection hh with hh
      injection hh with _ h4
      exact ht h4
  exact ⟨TabW.own_set_b h.one (k1 h.one) _ _, TabW.own_set_b h.two (k1 h.two) _ _, h.ne⟩
/-- an append onto the first -/
theorem push (h : Two w base v1 n1 xs1 v2 n2 xs2) (hown : w'.ownsRow base 3 1 v' m ys) (hg : w.grownBy w' v1.ownBlock) (hd : v'.ownBlock = v1.ownBlock ∨ v'.ownBlock = some w.heap.size) : Two w' base v' m ys v2 n2 xs2 := by
  refine ⟨hown, h.two.kept hg ?_, fun k e1 e2 => ?_⟩
  · cases e : v2.ownBlock with
    | none => exact .inl rfl
    | some k => exact .inr fun e2 => h.ne k e2.symm e
  · rcases hd with hd | hd
    · exact h.ne k (hd ▸ e1) e2
    · have := (h.two.lt k e2).2
      rw [hd] at e1
      cases e1
      omega
theorem box (h : Two w base v1 n1 xs1 v2 n2 xs2) (hg : w.grownBy w' v1.ownBlock) {g : Nat} {cs : Array Value} {t : TypeId} (hgg : w.heap[g]? = some (.cells cs t (0, 0))) (ht : t ≠ 3) : w'.heap[g]? = some (.cells cs t (0, 0)) := by
  refine (hg.block g (lt_heap hgg) fun e => ?_).trans hgg
  obtain ⟨-, h2⟩ := h.one
  rcases h2 with ⟨rfl, -⟩ | ⟨b, cap, cur, rfl, -, hh, -⟩
  · simp [Value.ownBlock] at e
  · have e' : g = b := by simpa [Value.ownBlock] using e
    rw [← e', hgg] at hh
    injection hh with hh
    injection hh with _ h4
    exact ht h4
end Two
/-- the array of one int -/
def ArrIn (w : World) (b : Nat) (x : Value) : Prop := w.heap[b]? = some (.cells #[x] 3 (0, 0))
theorem ArrIn.cells {w : World} {b : Nat} {x : Value} (h : ArrIn w b x) : ∀ j u, [x][j]? = some u → w.cell? ((⟨b, 0, none⟩ : Addr).add j) = some u := by
  intro j u hj
  rw [addr_add, Nat.zero_add]
  refine cell_of h ?_
  have : j = 0 := by have := (List.getElem?_eq_some_iff.1 hj).1; simp at this; omega
  subst this
  simpa using hj
theorem ArrIn.new {w : World} {b : Nat} {x : Value} (h : b = w.heap.size) : ArrIn (w.alloc (.cells #[x] 3)) b x := by
  show (w.alloc (.cells #[x] 3)).heap[b]? = _
  rw [heap_alloc_if, if_pos h]
theorem ArrIn.alloc {w : World} {b : Nat} {x : Value} (h : ArrIn w b x) (o : Obj) : ArrIn (w.alloc o) b x := (Below.heap_alloc _ _ _ (lt_heap h)).trans h
theorem ArrIn.grown {w w' : World} {b L : Nat} {x v : Value} (h : ArrIn w b x) (hg : w.grownBy w' v.ownBlock) (hv : ∀ k, v.ownBlock = some k → k < L) (hb : L ≤ b) : ArrIn w' b x :=
  (hg.block b (lt_heap h) fun e => by have := hv b e.symm; omega).trans h
theorem ArrIn.drew {w : World} {b : Nat} {x : Value} (h : ArrIn w b x) : ArrIn w.drew b x := h
/-- the box of a draw -/
def BoxIn (w : World) (g : Nat) (cs : Array Value) : Prop := w.heap[g]? = some (.cells cs 25 (0, 0))
theorem BoxIn.alloc {w : World} {g : Nat} {cs : Array Value} (h : BoxIn w g cs) (o : Obj) : BoxIn (w.alloc o) g cs := (Below.heap_alloc _ _ _ (lt_heap h)).trans h
theorem BoxIn.drew {w : World} {g : Nat} {cs : Array Value} (h : BoxIn w g cs) : BoxIn w.drew g cs := h
theorem BoxIn.push {w w' : World} {base n1 n2 : Nat} {v1 v2 : Value} {xs1 xs2 : List Value} {g : Nat} {cs : Array Value} (h : BoxIn w g cs) (ht : Two w base v1 n1 xs1 v2 n2 xs2) (hg : w.grownBy w' v1.ownBlock) : BoxIn w' g cs := ht.box hg h (by decide)
def plainF (n : Nat) : List Int := (List.range n).map fun (i : Nat) => (i : Int)
def plainS (n : Nat) : List Int := (List.range n).map fun (i : Nat) => (100 : Int) + (i : Int)
def plainD (n : Nat) : DrawD := ⟨plainF n, plainS n, []⟩
theorem plainF_succ (n : Nat) : (plainF n).map i64v ++ [i64v (n : Int)] = (plainF (n + 1)).map i64v := by simp [plainF, List.range_succ]
theorem plainS_succ (n : Nat) : (plainS n).map i64v ++ [i64v ((100 : Int) + (n : Int))] = (plainS (n + 1)).map i64v := by simp [plainS, List.range_succ]
theorem plainF_len (n : Nat) : (plainF n).length = n := by simp [plainF]
theorem plainS_len (n : Nat) : (plainS n).length = n := by simp [plainS]
/-- a plain draw on its way: in the world W, the boxes as they were, the rows as far as they have come -/
structure Pl (w wr W : World) (v1 v2 u1 u2 : Value) (n1 n2 : Nat) : Prop where
  two : Two W (w.heap.size + 1 + 1) u1 n1 ((plainF n1).map i64v) u2 n2 ((plainS n2).map i64v)
  box : BoxIn W (w.heap.size + 1) #[v1, v2, .slice none 0 0]
  ubox : BoxIn W w.heap.size #[.slice none 0 0, .slice none 0 0, .slice none 0 0]
  below : Below w.heap.size w W
  size : wr.heap.size ≤ W.heap.size
namespace Pl
variable {w wr W : World} {v1 v2 u1 u2 : Value} {n1 n2 k : Nat}
theorem alloc (h : Pl w wr W v1 v2 u1 u2 n1 n2) (o : Obj) : Pl w wr (W.alloc o) v1 v2 u1 u2 n1 n2 :=
  ⟨h.two.alloc o, h.box.alloc o, h.ubox.alloc o, h.below.alloc h.below.size o, by have := h.size; simp; omega⟩
theorem drew (h : Pl w wr W v1 v2 u1 u2 n1 n2) : Pl w wr W.drew v1 v2 u1 u2 n1 n2 := ⟨h.two.drew, h.box.drew, h.ubox.drew, h.below.drew, h.size⟩
theorem cells (h : Pl w wr W v1 v2 u1 u2 n1 n2) : W.cell? ⟨w.heap.size + 1, 0, none⟩ = some v1 ∧ W.cell? ⟨w.heap.size + 1, 1, none⟩ = some v2 ∧ W.frozen? ⟨w.heap.size + 1, 0, none⟩ = false ∧ W.frozen? ⟨w.heap.size + 1, 1, none⟩ = false :=
  ⟨cell_of (j := 0) h.box rfl, cell_of (j := 1) h.box rfl, frz_of (j := 0) h.box, frz_of (j := 1) h.box⟩
theorem cells1 (h : Pl w wr W v1 v2 u1 u2 n1 n2) : (∀ o, (W.alloc o).cell? ⟨w.heap.size + 1, 0, none⟩ = some v1) ∧ ∀ o, (W.alloc o).cell? ⟨w.heap.size + 1, 1, none⟩ = some v2 := ⟨fun o => (h.alloc o).cells.1, fun o => (h.alloc o).cells.2.1⟩
theorem cells2 (h : Pl w wr W v1 v2 u1 u2 n1 n2) : (∀ o o', ((W.alloc o).alloc o').cell? ⟨w.heap.size + 1, 0, none⟩ = some v1) ∧ ∀ o o', ((W.alloc o).alloc o').cell? ⟨w.heap.size + 1, 1, none⟩ = some v2 := ⟨fun o o' => ((h.alloc o).alloc o').cells.1, fun o o' => ((h.alloc o).alloc o').cells.2.1⟩
theorem pushA {w7 : World} {v7 : Value} (h : Pl w wr W v1 v2 u1 u2 n1 n2) (hown : w7.ownsRow (w.heap.size + 1 + 1) 3 1 v7 (n1 + 1) ((plainF (n1 + 1)).map i64v)) (hg : W.grownBy w7 u1.ownBlock) (hd : v7.ownBlock = u1.ownBlock ∨ v7.ownBlock = some W.heap.size) : Pl w wr w7 v1 v2 v7 u2 (n1 + 1) n2 :=
  ⟨h.two.push hown hg hd, h.box.push h.two hg, h.ubox.push h.two hg, h.below.grown hg h.below.size (fun q e => Nat.le_trans (by omega) (own_base h.two.one q e)), Nat.le_trans h.size hg.size⟩
theorem pushB {w7 : World} {v7 : Value} (h : Pl w wr W v1 v2 u1 u2 n1 n2) (hown : w7.ownsRow (w.heap.size + 1 + 1) 3 1 v7 (n2 + 1) ((plainS (n2 + 1)).map i64v)) (hg : W.grownBy w7 u2.ownBlock) (hd : v7.ownBlock = u2.ownBlock ∨ v7.ownBlock = some W.heap.size) : Pl w wr w7 v1 v2 u1 v7 n1 (n2 + 1) :=
  ⟨(h.two.swap.push hown hg hd).swap, h.box.push h.two.swap hg, h.ubox.push h.two.swap hg, h.below.grown hg h.below.size (fun q e => Nat.le_trans (by omega) (own_base h.two.two q e)), Nat.le_trans h.size hg.size⟩
variable {ops : Array Oper} {o : Oper} {a : Act} {K : Act → World → Prop} {Q : Exit → Act → World → Prop} {E : Prop}
theorem stepA (h : Pl w wr W v1 v2 v1 v2 k k) (hk : k ≤ 100) {b : Nat} (ha : ArrIn W b (i64v (k : Int))) (hgd : o.guard = none) (s x : Operand) (ho : o.op = .call { callee := .builtin .append, args := #[s, x], argTypes := #[22, 22] })
    (hs : a.eval s = v1) (hx : a.eval x = .slice (some ⟨b, 0, none⟩) 1 1) (hl : ∀ q, v1.ownBlock = some q → q < wr.heap.size)
    (hK : ∀ A c wA, Hid (Pl w wr wA v1 v2 (.slice A (k + 1) c) v2 (k + 1) k) → (∀ b' y, wr.heap.size ≤ b' → ArrIn W b' y → ArrIn wA b' y) → K (a.put o.dst (.slice A (k + 1) c)) wA) :
    if Region.wanted o (yielded ops a.tmps) = true then Oper.wp Try.prog o a W K Q else E := by
  obtain ⟨ii, hii, hz0, hz1, hz2⟩ := info_parts Try.info_int
  refine step_append_cells W hgd s x 22 ho (w.heap.size + 1 + 1) 3 ii (.int .i64 0) 1 8 Try.underlying22 hii hz0 hz1 hz2 rfl (by decide) v1 k ((plainF k).map i64v) hs h.two.one (some ⟨b, 0, none⟩) 1 1 [i64v (k : Int)] hx rfl (fun _ => ⟨_, rfl, ArrIn.cells ha⟩) (one_i64 _) (by unfold maxLen; omega) (by omega) ?_ ?_
  · have := lt_heap h.box; omega
  · intro vA wA hoA hgA hdA
    rw [plainF_succ] at hoA
    obtain ⟨A, c, rfl⟩ := own_sl hoA
    exact hK A c wA (h.pushA hoA hgA hdA) fun b' y hb hy => hy.grown hgA hl hb
theorem stepB {A : Option Addr} {c : Nat} (h : Pl w wr W v1 v2 (.slice A (k + 1) c) v2 (k + 1) k) (hk : k ≤ 100) {b : Nat} (ha : ArrIn W b (i64v ((100 : Int) + (k : Int)))) (hgd : o.guard = none) (s x : Operand) (ho : o.op = .call { callee := .builtin .append, args := #[s, x], argTypes := #[22, 22] })
    (hs : a.eval s = v2) (hx : a.eval x = .slice (some ⟨b, 0, none⟩) 1 1)
    (hK : ∀ B e wB, Hid (Pl w wr wB v1 v2 (.slice A (k + 1) c) (.slice B (k + 1) e) (k + 1) (k + 1)) → K (a.put o.dst (.slice B (k + 1) e)) wB) :
    if Region.wanted o (yielded ops a.tmps) = true then Oper.wp Try.prog o a W K Q else E := by
  obtain ⟨ii, hii, hz0, hz1, hz2⟩ := info_parts Try.info_int
  refine step_append_cells W hgd s x 22 ho (w.heap.size + 1 + 1) 3 ii (.int .i64 0) 1 8 Try.underlying22 hii hz0 hz1 hz2 rfl (by decide) v2 k ((plainS k).map i64v) hs h.two.two (some ⟨b, 0, none⟩) 1 1 [i64v ((100 : Int) + (k : Int))] hx rfl (fun _ => ⟨_, rfl, ArrIn.cells ha⟩) (one_i64 _) (by unfold maxLen; omega) (by omega) ?_ ?_
  · have := lt_heap h.box; omega
  · intro vB wB hoB hgB hdB
    rw [plainS_succ] at hoB
    obtain ⟨B, e, rfl⟩ := own_sl hoB
    exact hK B e wB (h.pushB hoB hgB hdB)
theorem fin (h : Pl w wr W v1 v2 u1 u2 n1 n2) {W' : World} (hW : W' = (W.setCell ⟨w.heap.size + 1, 0, none⟩ u1).setCell ⟨w.heap.size + 1, 1, none⟩ u2) : Pl w w W' u1 u2 u1 u2 n1 n2 := by
  have hb := h.box
  have hb1 : BoxIn (W.setCell ⟨w.heap.size + 1, 0, none⟩ u1) (w.heap.size + 1) #[u1, v2, .slice none 0 0] := by
    unfold BoxIn at hb ⊢; rw [heap_set_if, if_pos rfl, hb]; rfl
  subst hW
  refine ⟨(h.two.setCell hb (by decide) _ _).setCell hb1 (by decide) _ _, ?_, ?_, (h.below.setCell (by show _ ≤ w.heap.size + 1; omega) _).setCell (by show _ ≤ w.heap.size + 1; omega) _, by have := h.below.size; simpa [World.setCell] using this⟩
  · unfold BoxIn at hb1 ⊢; rw [heap_set_if, if_pos rfl, hb1]; rfl
  · have := h.ubox
    unfold BoxIn at this ⊢
    rw [heap_set_if, if_neg (by omega), heap_set_if, if_neg (by omega)]; exact this
end Pl
set_option maxHeartbeats 4000000 in
theorem plain_any (w : World) (n : Nat) (hn : n ≤ 100) :
    Calls Try.prog 27 #[.int .i64 (n : Int)] w fun e w' => ∃ v, e = .returned v ∧ IsDraw w' (fun b => w.heap.size ≤ b) v (plainD n) ∧ Below w.heap.size w w' := by
  go_enter Try.func27, Try.ntmps27
  go_wp2_with fail
  go_loopw [7] (fun q wr => ∃ (k : Nat) (v1 v2 : Value), k ≤ n ∧ q = .int .i64 (k : Int) ∧ Hid (Pl w w wr v1 v2 v1 v2 k k)) (fun q _ => n - (intOf q).toNat)
  case atStart =>
    refine ⟨0, .slice none 0 0, .slice none 0 0, Nat.zero_le _, rfl, Lib.hid ⟨⟨own_nil _ _ _ _, own_nil _ _ _ _, fun k e => by simp [Value.ownBlock] at e⟩, ?_, ?_, ?_, ?_⟩⟩
    · unfold BoxIn; simp only [heap_alloc_if, World.size_alloc]; rw [if_pos trivial]
    · unfold BoxIn; simp only [heap_alloc_if, World.size_alloc]; rw [if_neg (by omega), if_pos trivial]
    · exact ((Below.refl w.heap.size w).alloc (Nat.le_refl _) _).alloc (by simp) _
    · simp; omega
  case round =>
    obtain ⟨k, v1, v2, hk, rfl, HP0⟩ := hrel
    have HP : Hid (Pl w wr wr v1 v2 v1 v2 k k) := ⟨HP0.out.two, HP0.out.box, HP0.out.ubox, HP0.out.below, Nat.le_refl _⟩
    by_cases hlt : k < n
    · have hkk : (k : Int) < (n : Int) := by omega
      obtain ⟨e0, e1, f0, f1⟩ := HP.out.cells
      obtain ⟨e0a, e1a⟩ := HP.out.cells1
      obtain ⟨e0b, e1b⟩ := HP.out.cells2
      have hws : wrap64 (100 + (k : Int)) = 100 + (k : Int) := by unfold wrap64; omega
      have hws2 : IntKind.i64.wrap (100 + (k : Int)) = 100 + (k : Int) := by rw [IntKind.wrap_i64]; omega
      have hk100 : k ≤ 100 := by omega
      have HL1 := Lib.hid (fun q e => (HP.out.two.one.lt q e).2)
      go_wp2_with fail
      go_region_law (first | (refine Pl.stepA (w := w) (wr := wr) (v1 := v1) (v2 := v2) (k := k) ?_ hk100 (b := _) ?_ rfl (.tmp 11) (.tmp 13) rfl rfl rfl HL1.out ?_; (focus ((repeat (first | with_reducible exact HP.out | (with_reducible refine Pl.drew ?_) | (with_reducible refine Pl.alloc ?_ _))); done)); (focus ((repeat (first | (with_reducible refine ArrIn.drew ?_) | (exact ArrIn.new (by simp)) | (with_reducible refine ArrIn.alloc ?_ _))); done)); intro aA zA wA HA KA; obtain ⟨a0, a1, d0, d1⟩ := HA.out.cells; obtain ⟨a0a, a1a⟩ := HA.out.cells1) | (refine Pl.stepB (w := w) (wr := wr) (v1 := v1) (v2 := v2) (k := k) (A := aA) (c := zA) ?_ hk100 (b := _) ?_ rfl (.tmp 16) (.tmp 19) rfl rfl rfl ?_; (focus ((repeat (first | with_reducible exact HA.out | (with_reducible refine Pl.drew ?_) | (with_reducible refine Pl.alloc ?_ _))); done)); (focus ((repeat (first | (with_reducible refine ArrIn.drew ?_) | (exact ArrIn.new (by simp)) | (with_reducible refine ArrIn.alloc ?_ _) | (refine KA _ _ (by omega) ?_))); done)); intro aB zB wB HB; obtain ⟨b0, b1, c0, c1⟩ := HB.out.cells))
      all_goals
        go_wp2_with fail
        go_roundw
        case rel => exact ⟨k + 1, _, _, by omega, by go_num, Lib.hid (HB.out.fin rfl)⟩
        case measure => simp [intOf]; omega
    · have hkk : ¬ (k : Int) < (n : Int) := by omega
      obtain rfl : n = k := by omega
      obtain ⟨A1, c1, rfl⟩ := own_sl HP.out.two.one
      obtain ⟨A2, c2, rfl⟩ := own_sl HP.out.two.two
      have hb := HP.out.box
      have hu := HP.out.ubox
      have e0 := cell_of (j := 0) hb rfl
      have e1 := cell_of (j := 1) hb rfl
      have e2 := cell_of (j := 2) hb rfl
      have g0 := cell_of (j := 0) hu rfl
      have g1 := cell_of (j := 1) hu rfl
      have g2 := cell_of (j := 2) hu rfl
      have k0 := frz_of (j := 0) hu
      have k1 := frz_of (j := 1) hu
      have k2 := frz_of (j := 2) hu
      clear hb hu
      have hbel := HP.out.below
      have HUU := Lib.hid HP.out.ubox
      have HTW := Lib.hid HP.out.two
      have HBE := Lib.hid hbel
      clear hbel HP HP0 hkk
      go_wp2_with fail
      refine nameG (p := fun W => bodyPost Try.prog Try.f27 _ Exit.ret _ W) fun W hW => ?_
      have hbk : W.heap[w.heap.size]? = some (.cells #[.slice A1 n c1, .slice A2 n c2, .slice none 0 0] 25 (0, 0)) := by
        have hu := HUU.out
        unfold BoxIn at hu
        rw [hW.out, heap_set_if, if_pos rfl, heap_set_if, if_pos rfl, heap_set_if, if_pos rfl, hu]
        rfl
      have r0 := cell_of (j := 0) hbk rfl
      have r1 := cell_of (j := 1) hbk rfl
      have r2 := cell_of (j := 2) hbk rfl
      clear hbk g0 g1 g2 k0 k1 k2 e0 e1 e2
      refine bodyPost_ret (v := .agg #[.slice A1 n c1, .slice A2 n c2, .slice none 0 0]) (by simp [results, Try.results27, go_sem, r0, r1, r2]) rfl ?_
      have hbe : Below w.heap.size w W := by
        rw [hW.out]
        exact ((HBE.out.setCell (by exact Nat.le_refl _) _).setCell (by exact Nat.le_refl _) _).setCell (by exact Nat.le_refl _) _
      have htw : Two W (w.heap.size + 1 + 1) (.slice A1 n c1) n ((plainF n).map i64v) (.slice A2 n c2) n ((plainS n).map i64v) := by
        have hu := HUU.out
        have hu1 : BoxIn (wr.setCell ⟨w.heap.size, 0, none⟩ (.slice A1 n c1)) w.heap.size #[.slice A1 n c1, .slice none 0 0, .slice none 0 0] := by
          unfold BoxIn at hu ⊢; rw [heap_set_if, if_pos rfl, hu]; rfl
        have hu2 : BoxIn ((wr.setCell ⟨w.heap.size, 0, none⟩ (.slice A1 n c1)).setCell ⟨w.heap.size, 1, none⟩ (.slice A2 n c2)) w.heap.size #[.slice A1 n c1, .slice A2 n c2, .slice none 0 0] := by
          unfold BoxIn at hu1 ⊢; rw [heap_set_if, if_pos rfl, hu1]; rfl
        rw [hW.out]
        exact ((HTW.out.setCell hu (by decide) _ _).setCell hu1 (by decide) _ _).setCell hu2 (by decide) _ _
      have i1 : IsInts W (fun b => w.heap.size + 1 + 1 ≤ b) (.slice A1 n c1) (plainF n) := IsInts.ofOwn (by rw [plainF_len]; exact htw.one)
      have i2 : IsInts W (fun b => w.heap.size + 1 + 1 ≤ b) (.slice A2 n c2) (plainS n) := IsInts.ofOwn (by rw [plainS_len]; exact htw.two)
      exact ⟨_, rfl, ⟨_, _, _, rfl, IsSl.mono i1 (fun b _ h => by omega) (by decide), IsSl.mono i2 (fun b _ h => by omega) (by decide), IsSl.nil⟩, hbe⟩
end Go.Proofs.Ytbkgkgigcohbpaa
