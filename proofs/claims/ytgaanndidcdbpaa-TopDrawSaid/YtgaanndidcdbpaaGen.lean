import Derived.Test.YtgaanndidcdbpaaRows
import Derived.WalkKit
import Derived.WalkSpells
import Derived.WalkLawsBesides
import Derived.Lib.Hide
import Derived.Deep.QuietTactic
import Derived.BigQuiet
import Derived.Maps.AppendAt
import Derived.Laws.OwnMore
import Derived.Deep.AppendLies
namespace Go.Proofs.Ytgaanndidcdbpaa
open Go.RowKit

/-- behind the address A lie n elements of sz cells each; cell j of element i is f i j; they lie in blocks of M -/
def Cells (w : World) (M : Nat → Prop) (sz : Nat) (A : Option Addr) (n : Nat) (f : Nat → Nat → Value) : Prop :=
  0 < n → ∃ b off, A = some ⟨b, off, none⟩ ∧ M b ∧ ∀ i j, i < n → j < sz → w.cell? ⟨b, off + i * sz + j, none⟩ = some (f i j)

theorem lt_of_cell {w : World} {a : Addr} {v : Value} (h : w.cell? a = some v) : a.block < w.heap.size := by
  rcases Nat.lt_or_ge a.block w.heap.size with hlt | hge
  · exact hlt
  · unfold World.cell? at h; rw [Array.getElem?_eq_none hge] at h; cases h

section
variable {w wr w' : World} {M M' : Nat → Prop} {sz n i : Nat} {A : Option Addr} {v : Value} {f : Nat → Nat → Value}
theorem Cells.keep (h : Cells w M sz A n f) (hk : ∀ p : Addr, M p.block → p.block < w.heap.size → w'.cell? p = w.cell? p) : Cells w' M sz A n f := fun hn => by
  obtain ⟨b, off, e, hb, hc⟩ := h hn
  exact ⟨b, off, e, hb, fun i j hi hj => (hk _ hb (lt_of_cell (hc i j hi hj))).trans (hc i j hi hj)⟩
theorem Cells.mono (h : Cells w M sz A n f) (hM : ∀ b, b < w.heap.size → M b → M' b) (hsz : 0 < sz) : Cells w M' sz A n f := fun hn => by
  obtain ⟨b, off, e, hb, hc⟩ := h hn
  exact ⟨b, off, e, hM b (lt_of_cell (hc 0 0 hn hsz)) hb, hc⟩
theorem Cells.at1 (h : Cells w M 1 A n f) (hb : Below w.heap.size w wr) (hi : i < n) :
    ∃ b off, A = some ⟨b, off, none⟩ ∧ M b ∧ b < w.heap.size ∧ wr.cell? ⟨b, off + i, none⟩ = some (f i 0) := by
  obtain ⟨b, off, e, hm, hc⟩ := h (by omega)
  have h1 := hc i 0 hi (by omega)
  have hl : b < w.heap.size := lt_of_cell h1
  simp only [Nat.mul_one, Nat.add_zero] at h1
  exact ⟨b, off, e, hm, hl, (hb.cell (p := ⟨b, _, none⟩) hl).trans h1⟩
theorem Cells.at2 (h : Cells w M 2 A n f) (hb : Below w.heap.size w wr) (hi : i < n) :
    ∃ b off, A = some ⟨b, off, none⟩ ∧ M b ∧ b < w.heap.size ∧ wr.cell? ⟨b, off + i * 2, none⟩ = some (f i 0) ∧ wr.cell? ⟨b, off + i * 2 + 1, none⟩ = some (f i 1) := by
  obtain ⟨b, off, e, hm, hc⟩ := h (by omega)
  have h1 := hc i 0 hi (by omega)
  have h2 := hc i 1 hi (by omega)
  have hl : b < w.heap.size := lt_of_cell h1
  simp only [Nat.add_zero] at h1
  exact ⟨b, off, e, hm, hl, (hb.cell (p := ⟨b, _, none⟩) hl).trans h1, (hb.cell (p := ⟨b, _, none⟩) hl).trans h2⟩
end

/-- give the world at a call a name -/
theorem nameW {P : Program} {f : FuncId} {args : Array Value} {w : World} {R : Ending → World → Prop} (h : ∀ W, Hid (W = w) → Calls P f args W R) : Calls P f args w R := h w rfl
theorem nameG {p : World → Prop} {w : World} (h : ∀ W, Hid (W = w) → p W) : p w := h w rfl
theorem cell_of {w : World} {g j : Nat} {cs : Array Value} {t : TypeId} {z : Nat × Nat} {v : Value} (h : w.heap[g]? = some (.cells cs t z)) (hv : cs[j]? = some v) : w.cell? ⟨g, j, none⟩ = some v := by simp [World.cell?, h, hv]
theorem heap_alloc_if (w : World) (o : Obj) (k : Nat) : (w.alloc o).heap[k]? = if k = w.heap.size then some o else w.heap[k]? := by
  show (w.heap.push o)[k]? = _
  rw [Array.getElem?_push]
theorem heap_set_if (w : World) (b j k : Nat) (u : Value) : (w.setCell ⟨b, j, none⟩ u).heap[k]? = if k = b then (w.heap[k]?).map (fun o => match o with | .cells cs t z => .cells (cs.setIfInBounds j u) t z | o => o) else w.heap[k]? := by
  simp only [World.setCell, Array.getElem?_modify]
  by_cases h : b = k
  · subst h
    simp
    rfl
  · rw [if_neg h, if_neg (fun e => h e.symm)]
section
variable {P : Program} (w : World)
theorem run_append_none_any (base : Nat) (t ty e : TypeId) (i : TypeInfo) (size c : Nat) (ht : P.underlying t = some (.slice e)) (hi : P.info? e = some i)
    (v : Value) (n : Nat) (xs : List Value) (hown : w.ownsRow base e size v n xs) :
    (Builtin.append_ #[t, t] ty #[v, .slice none 0 c]).run P w = .ok v w := by
  rcases hown.2 with ⟨rfl, rfl⟩ | ⟨g, cap, cur, rfl, _, _, hnc, _⟩
  · simp [Builtin.append_, run_underlying ht, sizeOf, typeInfo, hi, Builtin.lenOf, Builtin.firstCells]
  · simp [Builtin.append_, run_underlying ht, sizeOf, typeInfo, hi, Builtin.lenOf, Builtin.firstCells, hnc, storeCells]

/-- append of whatever slice onto a row of the call's own -/
theorem run_append_cells (t ty : TypeId) (base : Nat) (e : TypeId) (i : TypeInfo) (z : Value) (size bytes : Nat) (ht : P.underlying t = some (.slice e)) (hi : P.info? e = some i) (hz : i.zero = some z)
    (hsize : i.size = size) (hby : i.bytes = bytes) (hzs : z.cells.size = size) (hsz : 0 < size)
    (v : Value) (n : Nat) (xs : List Value) (hown : w.ownsRow base e size v n xs)
    (A : Option Addr) (m c : Nat) (news : List Value) (hl : news.length = m * size) (hnews : 0 < m → ∃ ad, A = some ad ∧ ∀ j u, news[j]? = some u → w.cell? (ad.add j) = some u) (h1 : ∀ u ∈ news, u.oneCell' = true)
    (h63 : n + m ≤ maxLen) (hbytes : (n + m) * bytes ≤ 140737488355328) (hbase : base ≤ w.heap.size) :
    ∃ v' w', (Builtin.append_ #[t, t] ty #[v, .slice A m c]).run P w = .ok v' w' ∧
      w'.ownsRow base e size v' (n + m) (xs ++ news) ∧ w.grownBy w' v.ownBlock ∧ (v'.ownBlock = v.ownBlock ∨ v'.ownBlock = some w.heap.size) := by
  cases A with
  | none =>
    have hm : m = 0 := by
      rcases Nat.eq_zero_or_pos m with h | h
      · exact h
      · obtain ⟨ad, e, _⟩ := hnews h; cases e
    subst hm
    obtain rfl : news = [] := List.eq_nil_of_length_eq_zero (by omega)
    exact ⟨v, w, run_append_none_any w base t ty e i size c ht hi v n xs hown, by simpa using hown, ⟨rfl, rfl, rfl, Nat.le_refl _, fun _ _ _ => rfl⟩, .inl rfl⟩
  | some ad =>
    have hn : ∀ j u, news[j]? = some u → w.cell? (ad.add j) = some u := by
      rcases Nat.eq_zero_or_pos m with h | h
      · subst h
        obtain rfl : news = [] := List.eq_nil_of_length_eq_zero (by omega)
        intro j u hj; simp at hj
      · obtain ⟨ad', e, hh⟩ := hnews h
        obtain rfl : ad = ad' := by injection e
        exact hh
    obtain ⟨v', w', hr, h2, h3, _, h5⟩ := run_append_own_at (P := P) w base t ty e i z size bytes ht hi hz hsize hby hzs hsz v n xs hown ad m c news hl hn h1 h63 hbytes hbase
    exact ⟨v', w', hr, h2, h3, h5⟩

theorem wp_append_cells {o : Oper} {a : Act} {K : Act → World → Prop} {Q : Exit → Act → World → Prop} (s x : Operand) (t : TypeId)
    (ho : o.op = .call { callee := .builtin .append, args := #[s, x], argTypes := #[t, t] })
    (base : Nat) (e : TypeId) (i : TypeInfo) (z : Value) (size bytes : Nat) (ht : P.underlying t = some (.slice e)) (hi : P.info? e = some i) (hz : i.zero = some z)
    (hsize : i.size = size) (hby : i.bytes = bytes) (hzs : z.cells.size = size) (hsz : 0 < size)
    (v : Value) (n : Nat) (xs : List Value) (hs : a.eval s = v) (hown : w.ownsRow base e size v n xs)
    (A : Option Addr) (m c : Nat) (news : List Value) (hx : a.eval x = .slice A m c) (hl : news.length = m * size) (hnews : 0 < m → ∃ ad, A = some ad ∧ ∀ j u, news[j]? = some u → w.cell? (ad.add j) = some u) (h1 : ∀ u ∈ news, u.oneCell' = true)
    (h63 : n + m ≤ maxLen) (hbytes : (n + m) * bytes ≤ 140737488355328) (hbase : base ≤ w.heap.size)
    (h : ∀ v' w', w'.ownsRow base e size v' (n + m) (xs ++ news) → w.grownBy w' v.ownBlock → (v'.ownBlock = v.ownBlock ∨ v'.ownBlock = some w.heap.size) → K (a.put o.dst v') w') : o.wp P a w K Q := by
  obtain ⟨v', w', hr, h2, h3, h4⟩ := run_append_cells (P := P) w t o.type base e i z size bytes ht hi hz hsize hby hzs hsz v n xs hown A m c news hl hnews h1 h63 hbytes hbase
  unfold Oper.wp execOp
  simp only [ho, resolve, invoke, builtin, Sem.run_bind, Sem.run_pure, Result.andThen_ok, List.map_toArray, List.map_cons, List.map_nil, hs, hx, hr]
  exact h v' w' h2 h3 h4

theorem wpList_append_cells {ops : Array Oper} {rest : List Oper} {o : Oper} {a : Act} {Q : Exit → Act → World → Prop} (hgd : o.guard = none) (s x : Operand) (t : TypeId)
    (ho : o.op = .call { callee := .builtin .append, args := #[s, x], argTypes := #[t, t] })
    (base : Nat) (e : TypeId) (i : TypeInfo) (z : Value) (size bytes : Nat) (ht : P.underlying t = some (.slice e)) (hi : P.info? e = some i) (hz : i.zero = some z)
    (hsize : i.size = size) (hby : i.bytes = bytes) (hzs : z.cells.size = size) (hsz : 0 < size)
    (v : Value) (n : Nat) (xs : List Value) (hs : a.eval s = v) (hown : w.ownsRow base e size v n xs)
    (A : Option Addr) (m c : Nat) (news : List Value) (hx : a.eval x = .slice A m c) (hl : news.length = m * size) (hnews : 0 < m → ∃ ad, A = some ad ∧ ∀ j u, news[j]? = some u → w.cell? (ad.add j) = some u) (h1 : ∀ u ∈ news, u.oneCell' = true)
    (h63 : n + m ≤ maxLen) (hbytes : (n + m) * bytes ≤ 140737488355328) (hbase : base ≤ w.heap.size)
    (h : ∀ v' w', w'.ownsRow base e size v' (n + m) (xs ++ news) → w.grownBy w' v.ownBlock → (v'.ownBlock = v.ownBlock ∨ v'.ownBlock = some w.heap.size) → wpList P ops Q rest (a.put o.dst v') w') : wpList P ops Q (o :: rest) a w :=
  wpList_plain hgd fun _ hK => wp_append_cells w s x t ho base e i z size bytes ht hi hz hsize hby hzs hsz v n xs hs hown A m c news hx hl hnews h1 h63 hbytes hbase fun v' w' h2 h3 h4 => hK _ _ (h v' w' h2 h3 h4)

theorem step_append_cells {ops : Array Oper} {o : Oper} {a : Act} {K : Act → World → Prop} {Q : Exit → Act → World → Prop} {E : Prop} (hgd : o.guard = none) (s x : Operand) (t : TypeId)
    (ho : o.op = .call { callee := .builtin .append, args := #[s, x], argTypes := #[t, t] })
    (base : Nat) (e : TypeId) (i : TypeInfo) (z : Value) (size bytes : Nat) (ht : P.underlying t = some (.slice e)) (hi : P.info? e = some i) (hz : i.zero = some z)
    (hsize : i.size = size) (hby : i.bytes = bytes) (hzs : z.cells.size = size) (hsz : 0 < size)
    (v : Value) (n : Nat) (xs : List Value) (hs : a.eval s = v) (hown : w.ownsRow base e size v n xs)
    (A : Option Addr) (m c : Nat) (news : List Value) (hx : a.eval x = .slice A m c) (hl : news.length = m * size) (hnews : 0 < m → ∃ ad, A = some ad ∧ ∀ j u, news[j]? = some u → w.cell? (ad.add j) = some u) (h1 : ∀ u ∈ news, u.oneCell' = true)
    (h63 : n + m ≤ maxLen) (hbytes : (n + m) * bytes ≤ 140737488355328) (hbase : base ≤ w.heap.size)
    (h : ∀ v' w', w'.ownsRow base e size v' (n + m) (xs ++ news) → w.grownBy w' v.ownBlock → (v'.ownBlock = v.ownBlock ∨ v'.ownBlock = some w.heap.size) → K (a.put o.dst v') w') :
    if Region.wanted o (yielded ops a.tmps) = true then Oper.wp P o a w K Q else E := by
  have hw : Region.wanted o (yielded ops a.tmps) = true := by simp [Region.wanted, hgd]
  rw [if_pos hw]
  exact wp_append_cells w s x t ho base e i z size bytes ht hi hz hsize hby hzs hsz v n xs hs hown A m c news hx hl hnews h1 h63 hbytes hbase h
end
/-- every block that was there, but those of l, is as it was -/
structure Kp (l : List Nat) (w w' : World) : Prop where
  size : w.heap.size ≤ w'.heap.size
  block : ∀ k, k < w.heap.size → k ∉ l → w'.heap[k]? = w.heap[k]?
def NB (l : List Nat) (b : Nat) : Prop := b ∉ l
section
variable {l l' : List Nat} {w w' w'' : World}
theorem Kp.refl (l : List Nat) (w : World) : Kp l w w := ⟨Nat.le_refl _, fun _ _ _ => rfl⟩
theorem Kp.trans (h : Kp l w w') (k : Kp l w' w'') : Kp l w w'' := ⟨Nat.le_trans h.size k.size, fun i hi hl => (k.block i (by have := h.size; omega) hl).trans (h.block i hi hl)⟩
theorem Kp.below (h : Kp l w w') (k : Below w'.heap.size w' w'') : Kp l w w'' := h.trans ⟨k.size, fun i hi _ => k.block i hi⟩
theorem Kp.alloc (h : Kp l w w') (o : Obj) : Kp l w (w'.alloc o) := h.trans ⟨by simp, fun i hi _ => Below.heap_alloc _ _ _ hi⟩
theorem Kp.drew (h : Kp l w w') : Kp l w w'.drew := ⟨h.size, h.block⟩
theorem Kp.drewN (h : Kp l w w') (n : Nat) : Kp l w (w'.drewN n) := ⟨h.size, h.block⟩
theorem Kp.setCell (h : Kp l w w') {b : Nat} (hb : b ∈ l) (j : Nat) (u : Value) : Kp l w (w'.setCell ⟨b, j, none⟩ u) :=
  h.trans ⟨by simp [World.setCell], fun i _ hl => Below.heap_setCell _ _ _ _ (fun e => hl (by rw [e]; exact hb))⟩
theorem Kp.mono (h : Kp l w w') (hl : ∀ b ∈ l, b ∈ l') : Kp l' w w' := ⟨h.size, fun i hi hn => h.block i hi fun e => hn (hl i e)⟩
theorem Kp.cell (h : Kp l w w') {p : Addr} (hp : NB l p.block) (hl : p.block < w.heap.size) : w'.cell? p = w.cell? p := World.cell?_of_block (w := w) (h.block p.block hl hp)
/-- all of l lie in w -/
def InW (l : List Nat) (w : World) : Prop := ∀ b ∈ l, b < w.heap.size
theorem InW.nil (w : World) : InW [] w := fun b hb => absurd hb (by simp)
theorem InW.mono (h : InW l w) (hs : w.heap.size ≤ w'.heap.size) : InW l w' := fun b hb => Nat.lt_of_lt_of_le (h b hb) hs
theorem InW.cons {b : Nat} (h : InW l w) (hb : b < w.heap.size) : InW (b :: l) w := fun c hc => by
  rcases List.mem_cons.1 hc with e | e
  · exact e ▸ hb
  · exact h c e
theorem NB.ge (h : InW l w) {b : Nat} (hb : w.heap.size ≤ b) : NB l b := fun e => absurd (h b e) (by omega)
theorem NB.cons {n b : Nat} (hb : b < n) (h : NB l b) : NB (n :: l) b := fun e => by
  rcases List.mem_cons.1 e with e | e
  · omega
  · exact h e
end

def New (M : Nat → Prop) (w : World) : Nat → Prop := fun b => M b ∨ w.heap.size ≤ b
theorem ret_int {k : IntKind} {a b : Int} (h : a = b) : Ending.returned (.int k a) = .returned (.int k b) := by rw [h]
theorem ret_bool {a b : Bool} (h : a = b) : Ending.returned (.bool a) = .returned (.bool b) := by rw [h]
theorem nameC {P : Program} {c : Code} {Q : Exit → Act → World → Prop} {a : Act} {w : World} (h : ∀ W, Hid (W = w) → c.wp P Q a W) : c.wp P Q a w := h w rfl
theorem lt_heap {w : World} {g : Nat} {o : Obj} (h : w.heap[g]? = some o) : g < w.heap.size := by
  rcases Nat.lt_or_ge g w.heap.size with hlt | hge
  · exact hlt
  · rw [Array.getElem?_eq_none hge] at h; cases h
/-- the first k of a list all meet a test -/
def upTo {α : Type} (p : α → Bool) (l : List α) (k : Nat) : Prop := ∀ (j : Nat) (h : j < l.length), j < k → p l[j] = true
theorem upTo_zero {α : Type} {p : α → Bool} {l : List α} : upTo p l 0 := fun _ _ h => absurd h (by omega)
theorem upTo_succ {α : Type} {p : α → Bool} {l : List α} {k : Nat} (h : upTo p l k) (hk : k < l.length) (hp : p l[k] = true) : upTo p l (k + 1) := fun j hj hlt => by
  rcases Nat.lt_or_ge j k with h1 | h1
  · exact h j hj h1
  · obtain rfl : j = k := by omega
    exact hp
theorem upTo_all {α : Type} {p : α → Bool} {l : List α} (h : upTo p l l.length) : l.all p = true := by
  rw [List.all_eq_true]; intro x hx; obtain ⟨i, hi, rfl⟩ := List.getElem_of_mem hx; exact h i hi hi
theorem not_all {α : Type} {p : α → Bool} {l : List α} {k : Nat} (hk : k < l.length) (h : p l[k] = false) : l.all p = false := by
  rw [List.all_eq_false]; exact ⟨_, List.getElem_mem hk, by simp [h]⟩
theorem own_empty {W : World} {base g e sz : Nat} (hg : W.heap[g]? = some (.cells #[] e (0, 0))) (hb : base ≤ g) : W.ownsRow base e sz (.slice (some ⟨g, 0, none⟩) 0 0) 0 [] :=
  ⟨by simp, .inr ⟨g, 0, #[], rfl, hb, hg, Nat.le_refl _, by unfold maxLen; omega, by simp, by simp⟩⟩
theorem addr_add (g o i : Nat) : (⟨g, o, none⟩ : Addr).add i = ⟨g, o + i, none⟩ := by
  unfold Addr.add
  split
  · simp_all
  · rfl

/-- a slice of n elements of sz cells each, one after the other in one block of M; cell j of element i is f i j -/
def IsSl (w : World) (M : Nat → Prop) (sz : Nat) (v : Value) (n : Nat) (f : Nat → Nat → Value) : Prop := ∃ A c, v = .slice A n c ∧ n ≤ c ∧ c ≤ 9223372036854775807 ∧ Cells w M sz A n f
section
variable {w w' wr : World} {M M' : Nat → Prop} {sz n k : Nat} {v : Value} {f g : Nat → Nat → Value} {l : List Nat}
theorem IsSl.keep (h : IsSl w M sz v n f) (hk : ∀ p : Addr, M p.block → p.block < w.heap.size → w'.cell? p = w.cell? p) : IsSl w' M sz v n f := by
  obtain ⟨A, c, e, h1, h2, h3⟩ := h; exact ⟨A, c, e, h1, h2, h3.keep hk⟩
theorem IsSl.mono (h : IsSl w M sz v n f) (hM : ∀ b, b < w.heap.size → M b → M' b) (hsz : 0 < sz) : IsSl w M' sz v n f := by
  obtain ⟨A, c, e, h1, h2, h3⟩ := h; exact ⟨A, c, e, h1, h2, h3.mono hM hsz⟩
theorem IsSl.below (h : IsSl w M sz v n f) (hb : Below w.heap.size w w') : IsSl w' M sz v n f := h.keep fun _ _ hp => hb.cell hp
theorem IsSl.kp (h : IsSl w (NB l) sz v n f) (k : Kp l w w') : IsSl w' (NB l) sz v n f := h.keep fun _ hp hl => k.cell hp hl
theorem IsSl.box {b : Nat} (h : IsSl w (NB l) sz v n f) (hn : w.heap.size ≤ b) (hsz : 0 < sz) : IsSl w (NB (b :: l)) sz v n f := h.mono (fun _ _ hM => NB.cons (by omega) hM) hsz
theorem NB.new (h : InW l w) {b : Nat} (hb : New (NB l) w b) : NB l b := by
  rcases hb with hb | hb
  · exact hb
  · exact fun e => absurd (h b e) (by omega)
theorem IsSl.ofNew (h : IsSl w' (New (NB l) w) sz v n f) (hi : InW l w) (hsz : 0 < sz) : IsSl w' (NB l) sz v n f := h.mono (fun _ _ hM => NB.new hi hM) hsz
theorem IsSl.ofGe (h : IsSl w' (fun b => w.heap.size ≤ b) sz v n f) (hi : InW l w) (hsz : 0 < sz) : IsSl w' (NB l) sz v n f := h.mono (fun _ _ hM => NB.ge hi hM) hsz
theorem IsSl.nil : IsSl w M sz (.slice none 0 0) 0 f := ⟨none, 0, rfl, by omega, by omega, fun h => absurd h (by omega)⟩
theorem IsSl.congr (h : IsSl w M sz v n f) (he : ∀ i j, i < n → j < sz → f i j = g i j) : IsSl w M sz v n g := by
  obtain ⟨A, c, e, h1, h2, h3⟩ := h
  refine ⟨A, c, e, h1, h2, fun hn => ?_⟩
  obtain ⟨b, off, e, hM, hc⟩ := h3 hn
  exact ⟨b, off, e, hM, fun i j hi hj => (hc i j hi hj).trans (by rw [he i j hi hj])⟩
/-- an own row reads as a slice -/
theorem IsSl.ofOwn {base e : Nat} {xs : List Value} (h : w.ownsRow base e sz v n xs) (hM : ∀ b, base ≤ b → M b) : IsSl w M sz v n (fun i j => xs.getD (i * sz + j) .nilIface) := by
  have hlen := h.1
  rcases h.2 with ⟨rfl, rfl⟩ | ⟨b, cap, cur, rfl, hb, hg, hnc, hcm, _, hcur⟩
  · exact .nil
  · refine ⟨_, cap, rfl, hnc, by unfold maxLen at hcm; omega, fun hn => ⟨b, 0, rfl, hM b hb, fun i j hi hj => ?_⟩⟩
    have hlt : i * sz + j < xs.length := by
      rw [hlen]
      have : (i + 1) * sz ≤ n * sz := Nat.mul_le_mul_right _ (by omega)
      rw [Nat.add_mul] at this
      omega
    have hc := h.cells (g := b) rfl (i * sz + j) _ (List.getElem?_eq_getElem hlt)
    rw [addr_add] at hc
    rw [Nat.add_assoc, hc]
    show _ = some (xs.getD (i * sz + j) .nilIface)
    rw [List.getD_eq_getElem?_getD, List.getElem?_eq_getElem hlt, Option.getD_some]
end
end Go.Proofs.Ytgaanndidcdbpaa
