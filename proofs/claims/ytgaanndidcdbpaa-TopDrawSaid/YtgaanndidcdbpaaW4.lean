/- The memory of the law TopDraw: rows of numbers that grow in place; what its main loop keeps; the numbers that are drawn. -/
import Derived.Test.YtgaanndidcdbpaaW2
import Derived.BigQuiet
namespace Go.Proofs.Ytgaanndidcdbpaa
open Go.RowKit Go.Shelf

def IsBools (w : World) (M : Nat → Prop) (v : Value) (l : List Bool) : Prop := IsSl w M 1 v l.length (fun i _ => .bool (l.getD i false))
theorem IsBools.at_ {w wr : World} {M : Nat → Prop} {A : Option Addr} {n c k : Nat} {l : List Bool} (h : IsBools w M (.slice A n c) l) (hb : Below w.heap.size w wr) (hk : k < l.length) : ∃ g off, A = some ⟨g, off, none⟩ ∧ wr.cell? ⟨g, off + k, none⟩ = some (.bool (l.getD k false)) := by
  obtain ⟨A', c', e, -, -, h3⟩ := h
  cases e
  obtain ⟨g, off, e, hm, hc⟩ := h3 (Nat.lt_of_le_of_lt (Nat.zero_le _) hk)
  have h9 := hc k 0 hk (by decide)
  rw [Nat.mul_one, Nat.add_zero] at h9
  exact ⟨g, off, e, (hb.cell (p := ⟨g, off + k, none⟩) (lt_of_cell h9)).trans h9⟩
def updW {α : Type} (f : Nat → α) (k : Nat) (x : α) : Nat → α := fun i => if i = k then x else f i
theorem updW_same {α : Type} (f : Nat → α) (k : Nat) (x : α) : updW f k x k = x := if_pos rfl
theorem updW_other {α : Type} {f : Nat → α} {k i : Nat} {x : α} (h : i ≠ k) : updW f k x i = f i := if_neg h
/-- n rows of numbers, each its own, and the row of the rows -/
structure CfW (w : World) (base g n : Nat) (X : Nat → Value) (F : Nat → List Nat) : Prop where
  box : ∃ cs t, w.heap[g]? = some (.cells cs t (0, 0)) ∧ ∀ v, v < n → cs[v]? = some (X v)
  own : ∀ v, v < n → w.ownsRow base 23 1 (X v) (F v).length ((F v).map u64v)
  sep : ∀ u v, u < n → v < n → u ≠ v → ∀ b, (X u).ownBlock = some b → (X v).ownBlock ≠ some b
  lt : g < base
theorem own_keptB {w W : World} {base e sz n : Nat} {v : Value} {xs : List Value} (h : w.ownsRow base e sz v n xs) (hk : ∀ q, v.ownBlock = some q → W.heap[q]? = w.heap[q]?) : W.ownsRow base e sz v n xs := by
  refine ⟨h.1, h.2.imp id fun ⟨q, cap, cur, q1, q2, q3, q4⟩ => ⟨q, cap, cur, q1, q2, (hk q (by rw [q1]; rfl)).trans q3, q4⟩⟩
section
variable {w w' W : World} {base g n : Nat} {X : Nat → Value} {F : Nat → List Nat}
theorem CfW.start (h : w.rowIs g 35 n (fun _ => .slice none 0 0)) (hg : g < base) : CfW w base g n (fun _ => .slice none 0 0) (fun _ => []) := by
  obtain ⟨cs, h1, -, h2⟩ := h
  exact ⟨⟨cs, _, h1, h2⟩, fun _ _ => own_nil _ _ _ _, fun u v _ _ _ b e => (by cases e), hg⟩
theorem CfW.cell (h : CfW w base g n X F) {v : Nat} (hv : v < n) : w.cell? ⟨g, v, none⟩ = some (X v) := by
  obtain ⟨cs, t, h1, h2⟩ := h.box
  exact cell_of h1 (h2 v hv)
theorem CfW.frz (h : CfW w base g n X F) (v : Nat) : w.frozen? ⟨g, v, none⟩ = false := by
  obtain ⟨cs, t, h1, -⟩ := h.box
  simp [World.frozen?, h1]
theorem CfW.glt (h : CfW w base g n X F) : g < w.heap.size := by
  obtain ⟨cs, t, h1, -⟩ := h.box
  exact lt_heap h1
theorem CfW.below (h : CfW w base g n X F) (hb : Below w.heap.size w w') : CfW w' base g n X F := by
  obtain ⟨cs, t, h1, h2⟩ := h.box
  exact ⟨⟨cs, t, (hb.block _ h.glt).trans h1, h2⟩, fun v hv => own_keptB (h.own v hv) fun b e => hb.block b (own_lt (h.own v hv) b e).2, h.sep, h.lt⟩
theorem CfW.push (h : CfW w base g n X F) {v : Nat} (hv : v < n) (hw : Below w.heap.size w W) {x : Value} {y : Nat} (ho : w'.ownsRow base 23 1 x ((F v).length + 1) ((F v).map u64v ++ [u64v y])) (hg : W.grownBy w' (X v).ownBlock) (hx : x.ownBlock = (X v).ownBlock ∨ x.ownBlock = some W.heap.size) :
    CfW (w'.setCell ⟨g, v, none⟩ x) base g n (updW X v x) (updW F v (F v ++ [y])) := by
  have H := h.below hw
  obtain ⟨cs, t, h1, h2⟩ := H.box
  have hgl := h.lt
  have hne : (X v).ownBlock ≠ some g := fun e => by have := (own_lt (H.own v hv) g e).1; omega
  have hbox : w'.heap[g]? = some (.cells cs t (0, 0)) := (hg.block g H.glt fun e => hne e.symm).trans h1
  have hset : ∀ b, base ≤ b → (w'.setCell ⟨g, v, none⟩ x).heap[b]? = w'.heap[b]? := fun b hb => Below.heap_setCell _ _ _ _ (show b ≠ g by omega)
  refine ⟨⟨cs.setIfInBounds v x, t, by have := Blk_set hbox (j := v) x; exact this, fun u hu => ?_⟩, fun u hu => ?_, fun p q hp hq hpq b e1 e2 => ?_, h.lt⟩
  · by_cases e : u = v
    · subst e
      have hsz : u < cs.size := (Array.getElem?_eq_some_iff.1 (h2 u hv)).1
      rw [updW_same, Array.getElem?_setIfInBounds_self_of_lt hsz]
    · rw [updW_other e, Array.getElem?_setIfInBounds_ne (fun e' => e e'.symm)]; exact h2 u hu
  · by_cases e : u = v
    · subst e
      rw [updW_same, updW_same, List.length_append, List.map_append]
      exact own_keptB ho fun b e => hset b (own_lt ho b e).1
    · rw [updW_other e, updW_other e]
      refine own_keptB (H.own u hu) fun b eb => ?_
      have hb := own_lt (H.own u hu) b eb
      rw [hset b hb.1]
      exact hg.block b hb.2 fun e' => h.sep v u hv hu (fun e2 => e e2.symm) b e'.symm eb
  · by_cases ep : p = v
    · subst ep
      have hqv : q ≠ p := fun e => hpq e.symm
      rw [updW_same] at e1
      rw [updW_other hqv] at e2
      rcases hx with hx | hx
      · rw [hx] at e1
        exact h.sep p q hp hq hpq b e1 e2
      · rw [hx] at e1
        have := (own_lt (H.own q hq) b e2).2
        have e1' : W.heap.size = b := by simpa using e1
        omega
    · rw [updW_other ep] at e1
      by_cases eq : q = v
      · subst eq
        rw [updW_same] at e2
        rcases hx with hx | hx
        · rw [hx] at e2
          exact h.sep p q hp hq hpq b e1 e2
        · rw [hx] at e2
          have := (own_lt (H.own p hp) b e1).2
          have e2' : W.heap.size = b := by simpa using e2
          omega
      · rw [updW_other eq] at e2
        exact h.sep p q hp hq hpq b e1 e2
end
theorem own_isU64 {w : World} {base e : Nat} {v : Value} {xs : List Nat} (h : w.ownsRow base e 1 v xs.length (xs.map u64v)) : IsU64 w (fun q => v.ownBlock = some q) v xs := by
  have h9 : IsSl w (fun b => base ≤ b) 1 v xs.length (fun i j => (xs.map u64v).getD (i * 1 + j) .nilIface) := IsSl.ofOwn h (fun _ hb => hb)
  obtain ⟨A, c, e1, k1, k2, h3⟩ := h9
  refine ⟨A, c, e1, k1, k2, fun h0 => ?_⟩
  obtain ⟨b, off, e2, -, hc⟩ := h3 h0
  rcases h.2 with ⟨e0, e3⟩ | ⟨q, cap, cur, e0, -⟩
  · rw [e1] at e0
    injection e0 with e4
    rw [e2] at e4; cases e4
  · rw [e1] at e0
    injection e0 with e4
    rw [e2] at e4
    injection e4 with e4
    injection e4 with e5 e6
    subst e5
    refine ⟨b, off, e2, by rw [e1, e2, e6]; rfl, fun i j hi hj => ?_⟩
    rw [hc i j hi hj]
    obtain rfl : j = 0 := by omega
    show some ((xs.map u64v).getD (i * 1 + 0) .nilIface) = some (.int .u64 ((xs.getD i 0 : Nat) : Int))
    rw [Nat.mul_one, Nat.add_zero, List.getD_eq_getElem?_getD, List.getElem?_map, List.getElem?_eq_getElem hi, List.getD_eq_getElem?_getD, List.getElem?_eq_getElem hi]
    rfl
/-- the list with x ahead -/
def set0 (x : Nat) (l : List Nat) : List Nat := x :: l.tail
theorem set0_len {x : Nat} {l : List Nat} (h : 0 < l.length) : (set0 x l).length = l.length := by
  unfold set0; rw [List.length_cons, List.length_tail]; omega
theorem set0_get {x : Nat} {l : List Nat} {j : Nat} : (set0 x l).getD (j + 1) 0 = l.getD (j + 1) 0 := by
  unfold set0
  cases l <;> rfl
/-- what the main loop keeps -/
structure TS (w : World) (d : Dw.DrawD) (dv : Array Value) (gd gc ga gm bh : Nat) (cl : List Int) (cv sv : Value) (bs : List Bool) (n T N h : Nat) (X : Nat → Value) (F : Nat → List Nat) (x0 : Nat) (mt : Nat → Bool) : Prop where
  box : w.heap[gd]? = some (.cells dv 73 (0, 0))
  dr : Dw.IsDraw w (fun q => q ≠ bh ∧ q ≠ gm) (.agg dv) d
  cls : IsInts w (fun q => q ≠ bh ∧ q ≠ gm) cv cl
  sil : IsBools w (fun q => q ≠ bh ∧ q ≠ gm) sv bs
  all : IsBools w (fun q => q ≠ bh ∧ q ≠ gm) (.slice (some ⟨ga, 0, none⟩) n n) (List.replicate n false)
  out : ∃ cs t, w.heap[gc]? = some (.cells cs t (0, 0)) ∧ ∀ r, r < n → cs[r]? = some (X r)
  row : ∀ r, r < n → r ≠ h → IsU64 w (fun q => q ≠ bh ∧ q ≠ gm) (X r) (F r)
  hon : ∃ c, X h = .slice (some ⟨bh, 0, none⟩) T c ∧ T ≤ c ∧ c ≤ 9223372036854775807
  hrow : ∃ cur t, w.heap[bh]? = some (.cells cur t (0, 0)) ∧ ∀ j, j < T → cur[j]? = some (u64v ((set0 x0 (F h)).getD j 0))
  met : ∃ cm, w.heap[gm]? = some (.cells cm 4 (0, 0)) ∧ ∀ i, i < N → cm[i]? = some (.bool (mt i))
  len : (F h).length = T ∧ 0 < T ∧ h < n
  ne : gd ≠ bh ∧ gd ≠ gm ∧ gc ≠ bh ∧ gc ≠ gm ∧ bh ≠ gm
section
variable {w w' : World} {d : Dw.DrawD} {dv : Array Value} {gd gc ga gm bh : Nat} {cl : List Int} {cv sv : Value} {bs : List Bool} {n T N h : Nat} {X : Nat → Value} {F : Nat → List Nat} {x0 : Nat} {mt : Nat → Bool}
theorem IsDraw.keep {w w' : World} {M : Nat → Prop} {v : Value} {d : Dw.DrawD} (h : Dw.IsDraw w M v d) (hk : ∀ p : Addr, M p.block → p.block < w.heap.size → w'.cell? p = w.cell? p) : Dw.IsDraw w' M v d := by
  obtain ⟨v1, v2, v3, e, h1, h2, h3⟩ := h
  exact ⟨v1, v2, v3, e, IsSl.keep h1 hk, IsSl.keep h2 hk, IsSl.keep h3 hk⟩
theorem IsDrawM {w : World} {M M' : Nat → Prop} {v : Value} {d : Dw.DrawD} (h : Dw.IsDraw w M v d) (hM : ∀ b, M b → M' b) : Dw.IsDraw w M' v d := by
  obtain ⟨v1, v2, v3, e, h1, h2, h3⟩ := h
  exact ⟨v1, v2, v3, e, IsSl.mono h1 (fun b _ => hM b) (by omega), IsSl.mono h2 (fun b _ => hM b) (by omega), IsSl.mono h3 (fun b _ => hM b) (by omega)⟩
theorem TS.below (H : TS w d dv gd gc ga gm bh cl cv sv bs n T N h X F x0 mt) (hb : Below w.heap.size w w') : TS w' d dv gd gc ga gm bh cl cv sv bs n T N h X F x0 mt := by
  obtain ⟨cs, t, o1, o2⟩ := H.out
  obtain ⟨cur, t2, r1, r2⟩ := H.hrow
  obtain ⟨cm, m1, m2⟩ := H.met
  exact ⟨(hb.block _ (lt_heap H.box)).trans H.box, IsDraw.keep H.dr fun p _ hl => hb.cell hl, IsSl.below H.cls hb, IsSl.below H.sil hb, IsSl.below H.all hb, ⟨cs, t, (hb.block _ (lt_heap o1)).trans o1, o2⟩, fun r hr hne => IsSl.below (H.row r hr hne) hb, H.hon, ⟨cur, t2, (hb.block _ (lt_heap r1)).trans r1, r2⟩, ⟨cm, (hb.block _ (lt_heap m1)).trans m1, m2⟩, H.len, H.ne⟩
theorem TS.setH (H : TS w d dv gd gc ga gm bh cl cv sv bs n T N h X F x0 mt) (x : Nat) : TS (w.setCell ⟨bh, 0, none⟩ (.int .u64 (x : Int))) d dv gd gc ga gm bh cl cv sv bs n T N h X F x mt := by
  obtain ⟨cs, t, o1, o2⟩ := H.out
  obtain ⟨cur, t2, r1, r2⟩ := H.hrow
  obtain ⟨cm, m1, m2⟩ := H.met
  obtain ⟨n1, n2, n3, n4, n5⟩ := H.ne
  have hk : ∀ p : Addr, (p.block ≠ bh ∧ p.block ≠ gm) → p.block < w.heap.size → (w.setCell ⟨bh, 0, none⟩ (.int .u64 (x : Int))).cell? p = w.cell? p := fun p hp _ => cell_setO hp.1
  have ho : ∀ q, q ≠ bh → (w.setCell ⟨bh, 0, none⟩ (.int .u64 (x : Int))).heap[q]? = w.heap[q]? := fun q hq => Below.heap_setCell _ _ _ _ hq
  refine ⟨(ho _ n1).trans H.box, IsDraw.keep H.dr hk, IsSl.keep H.cls hk, IsSl.keep H.sil hk, IsSl.keep H.all hk, ⟨cs, t, (ho _ n3).trans o1, o2⟩, fun r hr hne => IsSl.keep (H.row r hr hne) hk, H.hon, ⟨_, t2, Blk_set r1 (j := 0) _, fun j hj => ?_⟩, ⟨cm, (ho _ (fun e => n5 e.symm)).trans m1, m2⟩, H.len, H.ne⟩
  have hsz : 0 < cur.size := (Array.getElem?_eq_some_iff.1 (r2 0 H.len.2.1)).1
  cases j with
  | zero => rw [Array.getElem?_setIfInBounds_self_of_lt hsz]; rfl
  | succ j => rw [Array.getElem?_setIfInBounds_ne (by omega), r2 (j + 1) hj, set0_get, set0_get]
theorem TS.setM (H : TS w d dv gd gc ga gm bh cl cv sv bs n T N h X F x0 mt) {i : Nat} (hi : i < N) : TS (w.setCell ⟨gm, i, none⟩ (.bool true)) d dv gd gc ga gm bh cl cv sv bs n T N h X F x0 (updW mt i true) := by
  obtain ⟨cs, t, o1, o2⟩ := H.out
  obtain ⟨cur, t2, r1, r2⟩ := H.hrow
  obtain ⟨cm, m1, m2⟩ := H.met
  obtain ⟨n1, n2, n3, n4, n5⟩ := H.ne
  have hk : ∀ p : Addr, (p.block ≠ bh ∧ p.block ≠ gm) → p.block < w.heap.size → (w.setCell ⟨gm, i, none⟩ (.bool true)).cell? p = w.cell? p := fun p hp _ => cell_setO hp.2
  have ho : ∀ q, q ≠ gm → (w.setCell ⟨gm, i, none⟩ (.bool true)).heap[q]? = w.heap[q]? := fun q hq => Below.heap_setCell _ _ _ _ hq
  refine ⟨(ho _ n2).trans H.box, IsDraw.keep H.dr hk, IsSl.keep H.cls hk, IsSl.keep H.sil hk, IsSl.keep H.all hk, ⟨cs, t, (ho _ n4).trans o1, o2⟩, fun r hr hne => IsSl.keep (H.row r hr hne) hk, H.hon, ⟨cur, t2, (ho _ n5).trans r1, r2⟩, ⟨_, Blk_set m1 (j := i) _, fun j hj => ?_⟩, H.len, H.ne⟩
  by_cases e : j = i
  · subst e
    have hsz : j < cm.size := (Array.getElem?_eq_some_iff.1 (m2 j hj)).1
    rw [updW_same, Array.getElem?_setIfInBounds_self_of_lt hsz]
  · rw [updW_other e, Array.getElem?_setIfInBounds_ne (fun e' => e e'.symm)]; exact m2 j hj
/-- the polynomials of a round -/
def psT (n h : Nat) (F : Nat → List Nat) (x : Nat) : List (List Nat) := (List.range n).map fun r => if r = h then set0 x (F h) else F r
theorem psT_len {x : Nat} : (psT n h F x).length = n := by simp [psT]
theorem psT_at {x r : Nat} (hr : r < n) : polN (psT n h F x) r = if r = h then set0 x (F h) else F r := by
  unfold polN psT
  rw [List.getD_eq_getElem?_getD, List.getElem?_map, List.getElem?_range hr]; rfl
theorem TS.pol (H : TS w d dv gd gc ga gm bh cl cv sv bs n T N h X F x0 mt) (hn : n ≤ 1000) : IsPol w TT (.slice (some ⟨gc, 0, none⟩) n n) (psT n h F x0) := by
  obtain ⟨cs, t, o1, o2⟩ := H.out
  refine ⟨X, ?_, fun r hr => ?_⟩
  · rw [psT_len]
    refine ⟨_, n, rfl, Nat.le_refl _, by omega, fun _ => ⟨gc, 0, rfl, trivial, fun i j hi hj => ?_⟩⟩
    obtain rfl : j = 0 := by omega
    rw [Nat.zero_add, Nat.mul_one, Nat.add_zero]
    exact cell_of o1 (o2 i hi)
  · rw [psT_len] at hr
    rw [psT_at hr]
    by_cases e : r = h
    · subst e
      rw [if_pos rfl]
      obtain ⟨c, e1, c1, c2⟩ := H.hon
      obtain ⟨cur, t2, r1, r2⟩ := H.hrow
      have hl := set0_len (x := x0) (l := F r) (by have := H.len.1; have := H.len.2.1; omega)
      rw [H.len.1] at hl
      unfold IsU64
      rw [hl, e1]
      refine ⟨_, c, rfl, c1, c2, fun _ => ⟨bh, 0, rfl, trivial, fun i j hi hj => ?_⟩⟩
      obtain rfl : j = 0 := by omega
      rw [Nat.zero_add, Nat.mul_one, Nat.add_zero]
      exact cell_of r1 (r2 i hi)
    · rw [if_neg e]
      exact IsSl.mono (H.row r hr e) (fun _ _ _ => trivial) (by omega)
end
/-- the numbers that are drawn: all the same but for the honest club's -/
theorem want_shift {of n h : Nat} {F : Nat → List Nat} (x : Nat) : ∀ k, k ≤ n → wantTo of (psT n h F x) k = (wantTo of (psT n h F 0) k + (if h < k then x else 0)) % of ∨ (of = 0) ∨ (k = 0) := fun k => by
  induction k with
  | zero => intro _; exact .inr (.inr rfl)
  | succ k ih =>
    intro hk
    refine .inl ?_
    have hp : ∀ y, p0 (psT n h F y) k = if k = h then y else (F k).getD 0 0 := fun y => by
      unfold p0
      rw [psT_at (by omega)]
      by_cases e : k = h
      · rw [if_pos e, if_pos e]; rfl
      · rw [if_neg e, if_neg e]
    show (wantTo of (psT n h F x) k + p0 (psT n h F x) k % of) % of = ((wantTo of (psT n h F 0) k + p0 (psT n h F 0) k % of) % of + _) % of
    rw [hp x, hp 0]
    have h0 : wantTo of (psT n h F x) k % of = (wantTo of (psT n h F 0) k + (if h < k then x else 0)) % of := by
      rcases ih (by omega) with q | q | q
      · rw [q, Nat.mod_mod]
      · subst q
        cases k with
        | zero => rfl
        | succ k =>
          rcases ih (by omega) with q | q | q
          · rw [q, Nat.mod_mod]
          · simp only [Nat.mod_zero]
            have hw : ∀ k, k ≤ n → wantTo 0 (psT n h F x) k = wantTo 0 (psT n h F 0) k + (if h < k then x else 0) := fun k => by
              induction k with
              | zero => intro _; rfl
              | succ k ih2 =>
                intro hk2
                have hp2 : ∀ y, p0 (psT n h F y) k = if k = h then y else (F k).getD 0 0 := fun y => by
                  unfold p0
                  rw [psT_at (by omega)]
                  by_cases e : k = h
                  · rw [if_pos e, if_pos e]; rfl
                  · rw [if_neg e, if_neg e]
                show (wantTo 0 (psT n h F x) k + p0 (psT n h F x) k % 0) % 0 = (wantTo 0 (psT n h F 0) k + p0 (psT n h F 0) k % 0) % 0 + _
                rw [ih2 (by omega), hp2, hp2]
                simp only [Nat.mod_zero]
                by_cases e : k = h
                · subst e; rw [if_pos rfl, if_pos rfl, if_neg (by omega), if_pos (by omega)]
                · rw [if_neg e, if_neg e]
                  by_cases e2 : h < k
                  · rw [if_pos e2, if_pos (by omega)]; omega
                  · rw [if_neg e2, if_neg (by omega)]; omega
            exact hw _ (by omega)
          · cases q
      · subst q; rfl
    rw [Nat.mod_add_mod]
    by_cases e : k = h
    · subst e
      rw [if_pos rfl, if_pos rfl, if_pos (by omega)]
      rw [if_neg (by omega), Nat.add_zero] at h0
      rw [Nat.add_mod, h0, Nat.mod_mod, ← Nat.add_mod, Nat.zero_mod, Nat.add_zero]
    · rw [if_neg e, if_neg e]
      by_cases e2 : h < k
      · rw [if_pos e2] at h0
        rw [if_pos (by omega), Nat.add_mod, h0, ← Nat.add_mod]
        congr 1; omega
      · rw [if_neg e2, Nat.add_zero] at h0
        rw [if_neg (by omega), Nat.add_mod, h0, ← Nat.add_mod, Nat.add_zero]
theorem want_round {of n h : Nat} {F : Nat → List Nat} (x : Nat) (h1 : 1 ≤ of) (hh : h < n) : wantTo of (psT n h F x) n = (wantTo of (psT n h F 0) n + x) % of := by
  rcases want_shift (of := of) (h := h) (F := F) x n (Nat.le_refl _) with q | q | q
  · rw [q, if_pos hh]
  · omega
  · omega
theorem mod_ne {S m k c : Nat} (h : m < k) (hk : k < c) : (S + m) % c ≠ (S + k) % c := fun e => by
  have e1 : S + k = (S + m) + (k - m) := by omega
  rw [e1, Nat.add_mod (S + m), Nat.mod_eq_of_lt (show k - m < c by omega)] at e
  have hr := Nat.mod_lt (S + m) (show 0 < c by omega)
  generalize (S + m) % c = r at e hr
  rcases Nat.lt_or_ge (r + (k - m)) c with q | q
  · rw [Nat.mod_eq_of_lt q] at e; omega
  · rw [Nat.mod_eq_sub_mod q, Nat.mod_eq_of_lt (by omega)] at e; omega
end Go.Proofs.Ytgaanndidcdbpaa
