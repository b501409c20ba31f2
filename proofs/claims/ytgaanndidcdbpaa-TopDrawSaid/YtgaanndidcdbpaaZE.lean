import Derived.Test.YtgaanndidcdbpaaZD
import Derived.Test.YtgaanndidcdbpaaGen
import Derived.Maps.OwnSet
import Derived.Deep.RegionHeld3
namespace Go.Proofs.Ytgaanndidcdbpaa
open Go.RowKit Go.Shelf

theorem minusQ_lt (a b : Nat) : minusQ a b < 1152921504606845789 := Nat.mod_lt _ (by decide)
set_option maxRecDepth 100000 in
theorem at1_any (a b : Nat) (ha : a < 1152921504606845789) (hb : b < 1152921504606845789) (w : World) : Calls Try.prog 104 #[.int .u64 a, .int .u64 b] w fun e w' => e = .returned (.int .u64 ((minusQ a b : Nat) : Int)) ∧ ∃ n, w' = w.drewN n := by
  obtain ⟨z, hz⟩ : ∃ z, 1152921504606845789 - b = z := ⟨_, rfl⟩
  have e1 : IntKind.u64.wrap (1152921504606845789 - (b : Int)) = (z : Int) := wn (by omega) (by omega)
  have C := Lib.hid (add_Q a z (by omega) w)
  rw [show (a + z) % 1152921504606845789 = minusQ a b by unfold minusQ; rw [hz]] at C
  obtain ⟨y, hy⟩ : ∃ y, minusQ a b = y := ⟨_, rfl⟩
  rw [hy] at C ⊢
  clear hz hy ha hb
  go_enter Try.func104, Try.ntmps104
  go_wp2_with fail
  refine C.out.mono ?_
  rintro e w' ⟨rfl, n, rfl⟩
  go_wp2_with fail
  go_ret
  exact ⟨rfl, n, rfl⟩
theorem prodQ_yes {l : List (Nat × Nat)} {i x n y : Nat} (h : n = i) : prodQ l i x (n + 1) y = prodQ l i x n y := by
  rw [prodQ, if_pos h]
theorem prodQ_no {l : List (Nat × Nat)} {i x n y : Nat} (h : n ≠ i) : prodQ l i x (n + 1) y = prodQ l i x n y * minusQ x (l.getD n (0, 0)).1 % 1152921504606845789 := by
  rw [prodQ, if_neg h]
theorem prodQ_lt {l : List (Nat × Nat)} {i x y : Nat} (hy : y < 1152921504606845789) : ∀ n, prodQ l i x n y < 1152921504606845789
  | 0 => hy
  | n + 1 => by
    by_cases h : n = i
    · rw [prodQ_yes h]; exact prodQ_lt hy n
    · rw [prodQ_no h]; exact Nat.mod_lt _ (by decide)
theorem atSum_lt (l : List (Nat × Nat)) (x : Nat) : ∀ i, atSum l x i < 1152921504606845789
  | 0 => (by decide : (0 : Nat) < 1152921504606845789)
  | i + 1 => Nat.mod_lt _ (by decide)
theorem invQ_lt (a : Nat) : invQ a < 1152921504606845789 := sqm_lt (by decide) _ _ _ _ (by decide)
/-- shares whose numbers are small -/
def ShQ (l : List (Nat × Nat)) : Prop := ∀ s ∈ l, s.1 < 1152921504606845789 ∧ s.2 < 1152921504606845789
theorem ShQ.getD {l : List (Nat × Nat)} (h : ShQ l) (i : Nat) : (l.getD i (0, 0)).1 < 1152921504606845789 ∧ (l.getD i (0, 0)).2 < 1152921504606845789 := by
  rw [List.getD_eq_getElem?_getD]
  rcases Nat.lt_or_ge i l.length with hi | hi
  · rw [List.getElem?_eq_getElem hi]; exact h _ (List.getElem_mem hi)
  · rw [List.getElem?_eq_none hi]; exact ⟨(by decide : (0 : Nat) < 1152921504606845789), (by decide : (0 : Nat) < 1152921504606845789)⟩
def fstD (l : List (Nat × Nat)) (i : Nat) : Nat := (l.getD i (0, 0)).1
def sndD (l : List (Nat × Nat)) (i : Nat) : Nat := (l.getD i (0, 0)).2
theorem IsShs.atD_ {w wr : World} {M : Nat → Prop} {A : Option Addr} {c k : Nat} {xs : List (Nat × Nat)} (h : IsShs w M (.slice A xs.length c) xs) (hb : Below w.heap.size w wr) (hk : k < xs.length) :
    ∃ b off, A = some ⟨b, off, none⟩ ∧ b < w.heap.size ∧ wr.cell? ⟨b, off + k * 2, none⟩ = some (.int .u64 ((fstD xs k : Nat) : Int)) ∧ wr.cell? ⟨b, off + k * 2 + 1, none⟩ = some (.int .u64 ((sndD xs k : Nat) : Int)) := by
  obtain ⟨b, off, e, hl, h1, h2⟩ := h.at_ hb hk
  refine ⟨b, off, e, hl, ?_, ?_⟩
  · rw [h1]; unfold fstD; rw [List.getD_eq_getElem?_getD, List.getElem?_eq_getElem hk]; rfl
  · rw [h2]; unfold sndD; rw [List.getD_eq_getElem?_getD, List.getElem?_eq_getElem hk]; rfl
set_option maxRecDepth 100000 in
set_option maxHeartbeats 2000000 in
theorem at_any (w : World) (M : Nat → Prop) (v : Value) (l : List (Nat × Nat)) (h : IsShs w M v l) (hq : ShQ l) (x : Nat) (hx : x < 1152921504606845789) :
    Calls Try.prog 94 #[v, .int .u64 x] w fun e w' => e = .returned (.int .u64 ((atD l x : Nat) : Int)) ∧ Below w.heap.size w w' := by
  have H := Lib.hid h
  have HQ := Lib.hid hq
  have HX := Lib.hid hx
  obtain ⟨A, c, rfl, h1, h2, -⟩ := h
  clear hq hx
  go_enter Try.func94, Try.ntmps94
  go_wp2_with fail
  go_loopw [4, 14] (fun y i wr => ∃ k : Nat, k ≤ l.length ∧ i = .int .i64 k ∧ y = .int .u64 ((atSum l x k : Nat) : Int) ∧ Hid (Below w.heap.size w wr)) (fun _ i _ => l.length - (intOf i).toNat)
  case atStart => exact ⟨0, Nat.zero_le _, rfl, rfl, Lib.hid (Below.refl _ _)⟩
  case round =>
    obtain ⟨k, hk, rfl, rfl, HB⟩ := hrel
    by_cases hlt : k < l.length
    · obtain ⟨b, off, rfl, hbl, hck, hck1⟩ := H.out.atD_ HB.out hlt
      have hlt' : (k : Int) < (l.length : Int) := by omega
      have hbr : b < wr.heap.size := Nat.lt_of_lt_of_le hbl HB.out.size
      go_wp2_with fail
      obtain ⟨W1, hW1⟩ : ∃ W1, W1 = wr.alloc (.cells #[.int .u64 ((fstD l k : Nat) : Int), .int .u64 ((sndD l k : Nat) : Int)] 59) := ⟨_, rfl⟩
      have k1 : W1.heap[wr.heap.size]? = some (.cells #[.int .u64 ((fstD l k : Nat) : Int), .int .u64 ((sndD l k : Nat) : Int)] 59 (0, 0)) := (by rw [hW1]; simp only [heap_alloc_if]; rw [if_pos trivial])
      have HB1 : Hid (Below w.heap.size w W1) := by rw [hW1]; exact HB.out.alloc HB.out.size _
      have hl1 : wr.heap.size < W1.heap.size := lt_heap k1
      have HK1 := Lib.hid k1
      rw [← hW1]
      clear hck hck1 k1 hW1
      have hsz1 := HB1.out.size
      have hbl1 : b < W1.heap.size := by omega
      clear hlt' hbr
      generalize wr.heap.size = g at hl1 HK1 ⊢
      go_loopw [8, 9, 23] (fun tp bt i wx => ∃ j : Nat, j ≤ l.length ∧ i = .int .i64 j ∧ tp = .int .u64 ((prodQ l k x j (sndD l k) : Nat) : Int) ∧ bt = .int .u64 ((prodQ l k (fstD l k) j 1 : Nat) : Int) ∧ Hid (Below W1.heap.size W1 wx)) (fun _ _ i _ => l.length - (intOf i).toNat)
      case atStart => exact ⟨0, Nat.zero_le _, rfl, rfl, rfl, Lib.hid (Below.refl _ _)⟩
      case round =>
        obtain ⟨j, hj, rfl, rfl, rfl, HBx⟩ := hrel
        have hszx := HBx.out.size
        by_cases hltj : j < l.length
        · obtain ⟨b', off', e', hbl', hcj, hcj1⟩ := H.out.atD_ (HB1.out.trans (HBx.out.mono HB1.out.size)) hltj
          cases e'
          have hltj' : (j : Int) < (l.length : Int) := by omega
          have HKx := Lib.hid ((HBx.out.block g hl1).trans HK1.out)
          have e0 := cell_of (j := 0) HKx.out rfl
          have hlx : g < wr.heap.size := by omega
          by_cases hjk : j = k
          · have hne : ((j : Int) != (k : Int)) = false := by rw [hjk]; simp
            have P1 := Lib.hid (prodQ_yes (l := l) (x := x) (y := sndD l k) hjk)
            have P2 := Lib.hid (prodQ_yes (l := l) (x := fstD l k) (y := 1) hjk)
            have HJ := Lib.hid hjk
            clear hjk
            go_wp2_with fail
            go_roundw
            case rel => exact ⟨j + 1, by omega, by go_num, by rw [P1.out], by rw [P2.out], Lib.hid (HBx.out.alloc hszx _)⟩
            case measure => simp [intOf]; omega
          · have hne : ((j : Int) != (k : Int)) = true := by simp; omega
            have P1 := Lib.hid (prodQ_no (l := l) (x := x) (y := sndD l k) hjk)
            have P2 := Lib.hid (prodQ_no (l := l) (x := fstD l k) (y := 1) hjk)
            have C1 := fun W => Lib.hid (at1_any x (fstD l j) HX.out (HQ.out.getD j).1 W)
            have C3 := fun W => Lib.hid (at1_any (fstD l k) (fstD l j) (HQ.out.getD k).1 (HQ.out.getD j).1 W)
            have C2 := fun W => Lib.hid (mul_Q (prodQ l k x j (sndD l k)) (minusQ x (fstD l j)) (prodQ_lt (HQ.out.getD k).2 _) (minusQ_lt _ _) W)
            have C4 := fun W => Lib.hid (mul_Q (prodQ l k (fstD l k) j 1) (minusQ (fstD l k) (fstD l j)) (prodQ_lt (by decide) _) (minusQ_lt _ _) W)
            rw [show prodQ l k x j (sndD l k) * minusQ x (fstD l j) % 1152921504606845789 = prodQ l k x (j + 1) (sndD l k) from P1.out.symm] at C2
            rw [show prodQ l k (fstD l k) j 1 * minusQ (fstD l k) (fstD l j) % 1152921504606845789 = prodQ l k (fstD l k) (j + 1) 1 from P2.out.symm] at C4
            clear hjk P1 P2
            generalize prodQ l k x j (sndD l k) = tp0 at C2 ⊢
            generalize prodQ l k (fstD l k) j 1 = bt0 at C4 ⊢
            generalize minusQ x (fstD l j) = m1 at C1 C2
            generalize minusQ (fstD l k) (fstD l j) = m2 at C3 C4
            go_wp2_with fail
            go_quiet ((first | (go_at_call 104; (first | with_reducible exact Calls.quiet_of (C1 _).out | with_reducible exact Calls.quiet_of (C3 _).out)) | (go_at_call 40; (first | with_reducible exact Calls.quiet_of (C2 _).out | with_reducible exact Calls.quiet_of (C4 _).out))))
            go_wp2_with fail
            go_roundw
            case rel => exact ⟨j + 1, by omega, by go_num, rfl, rfl, Lib.hid (below_drewN (HBx.out.alloc hszx _) _)⟩
            case measure => simp [intOf]; omega
        · have hnl : ¬ (j : Int) < (l.length : Int) := by omega
          obtain rfl : j = l.length := by omega
          have C1 := fun W => Lib.hid (inv_any (prodQ l k (fstD l k) l.length 1) (prodQ_lt (by decide) _) W)
          have C2 := fun W => Lib.hid (mul_Q (prodQ l k x l.length (sndD l k)) (invQ (prodQ l k (fstD l k) l.length 1)) (prodQ_lt (HQ.out.getD k).2 _) (invQ_lt _) W)
          have HT : Hid (atTerm l x k = prodQ l k x l.length (sndD l k) * invQ (prodQ l k (fstD l k) l.length 1) % 1152921504606845789) := rfl
          rw [← HT.out] at C2
          have hlt2 : atTerm l x k < 1152921504606845789 := Nat.mod_lt _ (by decide)
          have hls := atSum_lt l x k
          have C3 := fun W => Lib.hid (add_Q (atSum l x k) (atTerm l x k) (by omega) W)
          have HS : Hid (atSum l x (k + 1) = (atSum l x k + atTerm l x k) % 1152921504606845789) := rfl
          rw [← HS.out] at C3
          clear hlt2 hls
          generalize prodQ l k (fstD l k) l.length 1 = bt0 at C1 C2 ⊢
          generalize prodQ l k x l.length (sndD l k) = tp0 at C2 ⊢
          generalize invQ bt0 = iv at C1 C2
          go_wp2_with fail
          refine (C1 _).out.mono ?_
          rintro e w3 ⟨rfl, n1, rfl⟩
          go_wp2_with fail
          refine (C2 _).out.mono ?_
          rintro e w3 ⟨rfl, n2, rfl⟩
          go_wp2_with fail
          refine (C3 _).out.mono ?_
          rintro e w3 ⟨rfl, n3, rfl⟩
          go_wp2_with fail
          go_roundw
          case rel => exact ⟨k + 1, by omega, by go_num, rfl, Lib.hid (below_drewN (HB1.out.trans (HBx.out.mono HB1.out.size)) _)⟩
          case measure => simp [intOf]; omega
    · have hnl : ¬ (k : Int) < (l.length : Int) := by omega
      obtain rfl : k = l.length := by omega
      go_wp2_with fail
      go_ret
      exact ⟨rfl, HB.out⟩
end Go.Proofs.Ytgaanndidcdbpaa
namespace Go.Proofs.Ytgaanndidcdbpaa
open Go.RowKit Go.Shelf

theorem quiet_same {P : Program} {f : FuncId} {args : Array Value} {w : World} {n : Nat} {v : Value}
    (h : Calls P f args (w.drewN n) fun e w' => e = .returned v ∧ w.drewN n = w') : Calls P f args (w.drewN n) fun e w'' => e = .returned v ∧ ∃ m, w'' = w.drewN m :=
  h.mono fun _ _ ⟨he, hm⟩ => ⟨he, n, hm.symm⟩
end Go.Proofs.Ytgaanndidcdbpaa
namespace Go.Proofs.Ytgaanndidcdbpaa
open Go.RowKit
open Go.Maps (Keyed)

theorem plainElem_bool_inv {H : Type} {P : Program} {e : TypeId} (he : P.underlying e = some .bool) {v : Value} {z : DataW H × List MemPlace} (h : plainElem P e v = some z) : ∃ a, v = .bool a ∧ z = (.lit (.bool a), []) := by
  unfold plainElem at h
  rw [he] at h
  cases v <;> simp at h
  exact ⟨_, rfl, h.symm⟩
theorem own_ne {w : World} {base e sz n g : Nat} {v : Value} {xs : List Value} {o : Obj} (h : w.ownsRow base e sz v n xs) (hg : w.heap[g]? = some o) (hne : ∀ cs z, o ≠ .cells cs e z) : v.ownBlock ≠ some g := by
  intro hv
  rcases h.2 with ⟨rfl, _⟩ | ⟨b, cap, cur, rfl, _, hgb, _⟩
  · simp [Value.ownBlock] at hv
  · simp [Value.ownBlock] at hv
    subst hv
    rw [hgb] at hg
    cases hg
    exact hne _ _ rfl
theorem own_slice {w : World} {base e sz n : Nat} {v : Value} {xs : List Value} (h : w.ownsRow base e sz v n xs) : ∃ A c, v = .slice A n c := by
  rcases h.2 with ⟨rfl, h0⟩ | ⟨b, cap, cur, rfl, _⟩
  · exact ⟨none, 0, by rw [h0]⟩
  · exact ⟨_, _, rfl⟩
/-- block b is a map of numbers to bools, of n entries at most, that answers s (false where there is no entry) -/
def SetB (P : Program) (kt et : TypeId) (q : IntKind) (w : World) (b n : Nat) (s : Int → Bool) : Prop :=
  ∃ D : DataW Unit, w.ownsMap P kt (plainElem P et) b n D ∧ ∀ x, (Lit.int q x).wf = true → D.atKey (.int q x) (.lit (.bool false)) = .lit (.bool (s x))
/-- s, but val at key -/
def updS (s : Int → Bool) (key : Int) (val : Bool) : Int → Bool := fun y => if y = key then val else s y
section
variable {P : Program} {kt et mt : TypeId} {q : IntKind} {w : World} {b n : Nat} {s : Int → Bool}
theorem SetB.made (w : World) : SetB P kt et q (w.alloc (.map #[] 0)) w.heap.size 0 (fun _ => false) :=
  ⟨.map [], World.ownsMap_made w P kt _, fun _ _ => rfl⟩
theorem SetB.lt (h : SetB P kt et q w b n s) : b < w.heap.size := by obtain ⟨D, h, _⟩ := h; exact h.lt
theorem SetB.heap (h : SetB P kt et q w b n s) : ∃ es c, w.heap[b]? = some (.map es c) := by obtain ⟨D, ⟨es, c, hb, _⟩, _⟩ := h; exact ⟨es, c, hb⟩
theorem SetB.below {m : Nat} {w' : World} (h : SetB P kt et q w b n s) (hb : Below m w w') (hm : w.heap.size ≤ m) : SetB P kt et q w' b n s := by
  obtain ⟨D, h, hs⟩ := h
  have hlt := h.lt
  obtain ⟨es, clock, hbb, F, hsz, hD⟩ := h
  exact ⟨D, ⟨es, clock, (hb.block b (by omega)).trans hbb, F, hsz, hD⟩, hs⟩
theorem SetB.kept {w' : World} {row : Option Nat} (h : SetB P kt et q w b n s) (hg : w.grownBy w' row) (hne : some b ≠ row) : SetB P kt et q w' b n s := by
  obtain ⟨D, h, hs⟩ := h
  exact ⟨D, h.kept hg hne, hs⟩
theorem SetB.alloc (h : SetB P kt et q w b n s) (o : Obj) : SetB P kt et q (w.alloc o) b n s := h.kept (World.grownBy_alloc w o none) (by simp)
theorem SetB.drewN (h : SetB P kt et q w b n s) (m : Nat) : SetB P kt et q (w.drewN m) b n s := h
theorem SetB.set (h : SetB P kt et q w b n s) {g : Nat} (hg : g ≠ b) (j : Nat) (u : Value) : SetB P kt et q (w.setCell ⟨g, j, none⟩ u) b n s := by
  obtain ⟨D, h, hs⟩ := h
  obtain ⟨es, clock, hbb, F, hsz, hD⟩ := h
  exact ⟨D, ⟨es, clock, by rw [heap_set_if, if_neg (fun e => hg e.symm)]; exact hbb, F, hsz, hD⟩, hs⟩
theorem wpList_lookup_set {ops : Array Oper} {rest : List Oper} {o : Oper} {a : Act} {Q : Exit → Act → World → Prop}
    (hg : o.guard = none) (m x : Operand) (t : TypeId) (hop : o.op = Op.lookup t m x false)
    (hk : P.underlying kt = some (.int q)) (ht : P.underlying t = some (.map kt et)) (he : P.underlying et = some .bool) (hz : (zeroValue et).run P w = .ok (.bool false) w)
    (hm : a.eval m = .map (some b)) (hown : SetB P kt et q w b n s) (key : Int) (hx : a.eval x = .int q key) (hwf : (Lit.int q key).wf = true)
    (hK : wpList P ops Q rest (a.put o.dst (.bool (s key))) w) :
    wpList P ops Q (o :: rest) a w := by
  obtain ⟨D, hown, hs⟩ := hown
  refine wpList_plain hg fun K' hK' => ?_
  obtain ⟨v, ps, hrun, hv⟩ := hown.lookup (Maps.int_keyed hk) ht hz (plainElem_bool he false) (Maps.keyOf_int_mk hk hwf)
  obtain ⟨c, rfl, hc⟩ := plainElem_bool_inv he hv
  simp only [Prod.mk.injEq] at hc
  rw [hs key hwf] at hc
  have hcs : c = s key := by have := hc.1; injection this with h1; injection h1 with h2; exact h2.symm
  rw [hcs] at hrun
  unfold Oper.wp
  simp [execOp, hop, hm, hx, hrun, Result.andThen]
  exact hK' _ _ hK
theorem wpList_update_set {ops : Array Oper} {rest : List Oper} {o : Oper} {a : Act} {Q : Exit → Act → World → Prop}
    (hg : o.guard = none) (m x v : Operand) (t : TypeId) (hop : o.op = Op.mapUpdate t m x v)
    (hk : P.underlying kt = some (.int q)) (ht : P.underlying t = some (.map kt et)) (he : P.underlying et = some .bool)
    (hm : a.eval m = .map (some b)) (hown : SetB P kt et q w b n s) (hn : n < maxLen) (key : Int) (hx : a.eval x = .int q key) (hwf : (Lit.int q key).wf = true) (val : Bool) (hv : a.eval v = .bool val)
    (hK : ∀ w', SetB P kt et q w' b (n + 1) (updS s key val) → w.grownBy w' (some b) → wpList P ops Q rest (a.put o.dst undef) w') :
    wpList P ops Q (o :: rest) a w := by
  obtain ⟨D, hown, hs⟩ := hown
  unfold updS at hK
  refine wpList_mapUpdate_own w hg m x v t hop kt et (Maps.int_keyed hk) ht _ b n D hm hown hn _ _ _ hx hv (Maps.keyOf_int_mk hk hwf) _ [] (plainElem_bool he val) fun w' h1 h2 => hK w' ⟨_, h1, fun y hy => ?_⟩ h2
  by_cases e : y = key
  · subst e
    rw [Maps.atKey_put_same hown.isMap (show WideAt.IsKeyLit (.int q y) from trivial)]; simp only [if_pos]
  · rw [Maps.atKey_put_other (by intro h; cases h; exact e rfl), hs y hy]; simp only [if_neg e]
end
end Go.Proofs.Ytgaanndidcdbpaa
namespace Go.Proofs.Ytgaanndidcdbpaa
open Go.RowKit Go.Shelf

theorem join1_any (x y : Nat) (w : World) : Calls Try.prog 91 #[.agg #[.int .u64 x, .int .u64 y]] w fun e w' => e = .returned (.bool (!shOk (x, y))) ∧ Below w.heap.size w w' := by
  have CI := fun W => Lib.hid (isShare_any x y W)
  go_enter Try.func91, Try.ntmps91
  go_wp2_with fail
  refine nameW fun W1 hW1 => ?_
  have HB1 : Hid (Below w.heap.size w W1) := by rw [hW1.out]; exact (Below.refl w.heap.size w).alloc (Nat.le_refl _) _
  clear hW1
  refine (CI _).out.mono ?_
  rintro e w1 ⟨rfl, hb1⟩
  have HB2 := Lib.hid (HB1.out.trans (hb1.mono HB1.out.size))
  clear hb1
  go_wp2_with fail
  go_ret
  exact ⟨rfl, HB2.out⟩
/-- the numbers differ -/
def neN (a b : Nat) : Bool := (a : Int) != (b : Int)
theorem join2_any (w : World) (M : Nat → Prop) (g : Nat) (v : Value) (f : List (Nat × Nat)) (hg : w.cell? ⟨g, 0, none⟩ = some v) (h : IsShs w M v f) (hq : ShQ f) (x y : Nat) (hx : x < 1152921504606845789) :
    Calls Try.prog 93 #[.agg #[.int .u64 x, .int .u64 y], .pointer (some ⟨g, 0, none⟩)] w fun e w' => e = .returned (.bool (neN (atD f x) y)) ∧ Below w.heap.size w w' := by
  have H := Lib.hid h
  obtain ⟨A, c, rfl, h1, h2, -⟩ := h
  have hgl := lt_of_cell hg
  dsimp only at hgl
  go_enter Try.func93, Try.ntmps93
  go_wp2_with fail
  refine nameC fun W1 hW1 => ?_
  have HB1 : Hid (Below w.heap.size w W1) := by rw [hW1.out]; exact (Below.refl w.heap.size w).alloc (Nat.le_refl _) _
  have k1 : W1.heap[w.heap.size]? = some (.cells #[.int .u64 x, .int .u64 y] 59 (0, 0)) := (by rw [hW1.out]; simp only [heap_alloc_if]; rw [if_pos trivial])
  have hg1 := (HB1.out.cell (p := ⟨g, 0, none⟩) hgl).trans hg
  have hl1 := lt_heap k1
  have hl2 : g < W1.heap.size := by omega
  clear hW1 hg
  have HK1 := Lib.hid k1
  have HG1 := Lib.hid hg1
  have e0 := cell_of (j := 0) k1 rfl
  have e1 := cell_of (j := 1) k1 rfl
  have CA := fun W (hB : Below W1.heap.size W1 W) => Lib.hid (at_any W M _ f ((H.out.below HB1.out).below hB) hq x hx)
  clear k1
  go_region_held3 (fun w' => w'.cell? ⟨g, 0, none⟩ = some (.slice A f.length c) ∧ w'.cell? ⟨w.heap.size, 0, none⟩ = some (.int .u64 (x : Int)) ∧ w'.cell? ⟨w.heap.size, 1, none⟩ = some (.int .u64 (y : Int))) (first | with_reducible exact ⟨hg1, e0, e1⟩ | with_reducible exact ⟨s0, s1, s2⟩ | go_keep) ((go_at_call 94; refine (CA _ (by repeat (first | exact Below.refl _ _ | refine Below.drew ?_))).out.mono ?_; rintro e w9 ⟨rfl, hb9⟩; have hB9 : Below W1.heap.size W1 w9 := Below.trans (by repeat (first | exact Below.refl _ _ | refine Below.drew ?_)) (hb9.mono (by first | exact Nat.le_refl _ | (simp; done))); have s0 := (hB9.cell (p := ⟨g, 0, none⟩) hl2).trans HG1.out; have s1 := cell_of (j := 0) ((hB9.block w.heap.size hl1).trans HK1.out) rfl; have s2 := cell_of (j := 1) ((hB9.block w.heap.size hl1).trans HK1.out) rfl; have HB9 := Lib.hid (HB1.out.trans (hB9.mono HB1.out.size)); clear hb9 hB9))
  all_goals go_wp2_with fail
  all_goals go_ret
  all_goals exact ⟨rfl, by repeat (first | exact HB9.out | refine Below.drew ?_)⟩
end Go.Proofs.Ytgaanndidcdbpaa
namespace Go.Proofs.Ytgaanndidcdbpaa
open Go.RowKit Go.Shelf

/-- the first shares after k -/
def fstTo (l : List (Nat × Nat)) (T k : Nat) : List (Nat × Nat) := firstD (l.take k) T
/-- the places of the first k shares -/
def seenT (l : List (Nat × Nat)) (k : Nat) (y : Int) : Bool := (l.take k).any fun s => decide ((s.1 : Int) = y)
theorem fstTo_succ {l : List (Nat × Nat)} {T k : Nat} (hk : k < l.length) : fstTo l T (k + 1) = firstStep T (fstTo l T k) l[k] := by
  unfold fstTo firstD; rw [List.take_succ_eq_append_getElem hk, List.foldl_append]; rfl
theorem fstTo_len (l : List (Nat × Nat)) (T : Nat) : ∀ k, (fstTo l T k).length ≤ T ∧ (fstTo l T k).length ≤ k
  | 0 => by simp [fstTo, firstD]
  | k + 1 => by
    rcases Nat.lt_or_ge k l.length with hk | hk
    · rw [fstTo_succ hk]
      have ih := fstTo_len l T k
      unfold firstStep
      split
      · simp; omega
      · omega
    · have e : fstTo l T (k + 1) = fstTo l T k := by unfold fstTo; rw [List.take_of_length_le (by omega), List.take_of_length_le hk]
      rw [e]
      have ih := fstTo_len l T k
      omega
theorem fstTo_mem {l : List (Nat × Nat)} {T : Nat} : ∀ k, ∀ s ∈ fstTo l T k, s ∈ l
  | 0, s, h => by simp [fstTo, firstD] at h
  | k + 1, s, h => by
    rcases Nat.lt_or_ge k l.length with hk | hk
    · rw [fstTo_succ hk] at h
      unfold firstStep at h
      split at h
      · rcases List.mem_append.1 h with h | h
        · exact fstTo_mem k s h
        · rw [List.mem_singleton] at h; rw [h]; exact List.getElem_mem hk
      · exact fstTo_mem k s h
    · have e : fstTo l T (k + 1) = fstTo l T k := by unfold fstTo; rw [List.take_of_length_le (by omega), List.take_of_length_le hk]
      rw [e] at h
      exact fstTo_mem k s h
theorem seenT_succ {l : List (Nat × Nat)} {k : Nat} (hk : k < l.length) : updS (seenT l k) ((l[k].1 : Nat) : Int) true = seenT l (k + 1) := by
  funext y
  unfold updS seenT
  rw [List.take_succ_eq_append_getElem hk, List.any_append, List.any_cons, List.any_nil, Bool.or_false]
  by_cases e : y = ((l[k].1 : Nat) : Int)
  · rw [if_pos e, decide_eq_true e.symm, Bool.or_true]
  · rw [if_neg e, decide_eq_false (fun h => e h.symm), Bool.or_false]
theorem seen_fst {l : List (Nat × Nat)} {T : Nat} : ∀ k, k ≤ l.length → (fstTo l T k).length < T → ∀ x : Nat, (fstTo l T k).any (fun u => u.1 == x) = seenT l k (x : Int)
  | 0, _, _, x => by simp [fstTo, firstD, seenT]
  | k + 1, hk, hl, x => by
    have hk' : k < l.length := hk
    rw [← seenT_succ hk']
    rw [fstTo_succ hk'] at hl ⊢
    have hlt : (fstTo l T k).length < T := by
      unfold firstStep at hl
      split at hl
      · simp at hl; omega
      · exact hl
    have ih := seen_fst (l := l) (T := T) k (by omega) hlt
    have key : (firstStep T (fstTo l T k) l[k]).any (fun u => u.1 == x) = ((fstTo l T k).any (fun u => u.1 == x) || (l[k].1 == x)) := by
      unfold firstStep
      by_cases ha : (fstTo l T k).any (fun u => u.1 == l[k].1) = false
      · rw [if_pos ⟨ha, hlt⟩, List.any_append]; simp
      · rw [if_neg (fun h => ha h.1)]
        by_cases e : l[k].1 = x
        · rw [← e]; simp at ha ⊢; exact ha
        · have : (l[k].1 == x) = false := by simpa using e
          rw [this, Bool.or_false]
    rw [key, ih x]
    unfold updS
    by_cases e : (x : Int) = ((l[k].1 : Nat) : Int)
    · have e' : l[k].1 = x := by omega
      rw [if_pos e, e']; simp
    · have e' : ¬ l[k].1 = x := by omega
      have : (l[k].1 == x) = false := by simpa using e'
      rw [if_neg e, this, Bool.or_false]
theorem step_same {l : List (Nat × Nat)} {T k : Nat} (hk : k < l.length) (h : seenT l k ((l[k].1 : Nat) : Int) = true ∨ T ≤ (fstTo l T k).length) : fstTo l T (k + 1) = fstTo l T k := by
  rw [fstTo_succ hk]
  unfold firstStep
  rw [if_neg]
  rintro ⟨h1, h2⟩
  rcases h with h | h
  · rw [seen_fst k (by omega) h2, h] at h1; cases h1
  · omega
theorem step_add {l : List (Nat × Nat)} {T k : Nat} (hk : k < l.length) (h : seenT l k ((l[k].1 : Nat) : Int) = false) (h2 : (fstTo l T k).length < T) : fstTo l T (k + 1) = fstTo l T k ++ [l[k]] := by
  rw [fstTo_succ hk]
  unfold firstStep
  rw [if_pos ⟨by rw [seen_fst k (by omega) h2]; exact h, h2⟩]
/-- a number and a code -/
def NumE (w : World) (r : Nat × Int) (e : Ending) (w' : World) : Prop := e = .returned (.tuple #[.int .u64 (r.1 : Int), .int .i64 r.2]) ∧ Below w.heap.size w w'
theorem Try.zeroBool (w : World) : (zeroValue 4).run Try.prog w = .ok (.bool false) w := by kernel_rfl
theorem joinD_out {l : List (Nat × Nat)} {t : Int} (h : ¬ (1 ≤ t ∧ t ≤ 24)) : joinD l t = (0, 230) := by
  unfold joinD; rw [if_neg (fun hh => h hh.1)]
theorem joinD_bad {l : List (Nat × Nat)} {t : Int} (h : l.all shOk = false) : joinD l t = (0, 230) := by
  unfold joinD; rw [if_neg (fun hh => by rw [h] at hh; cases hh.2)]
theorem range_any' {α : Type} (l : List α) (z : α) (p : α → Bool) : (List.range l.length).any (fun i => p (l.getD i z)) = l.any p := range_any l z p
theorem any_not {α : Type} (ok : α → Bool) (l : List α) : (l.any fun x => !ok x) = !l.all ok := by
  induction l with
  | nil => rfl
  | cons a r ih => simp only [List.any_cons, List.all_cons, Bool.not_and, ih]
/-- Join's first question -/
theorem joinAsk_any (w : World) (M : Nat → Prop) (A : Option Addr) (c : Nat) (l : List (Nat × Nat)) (h : IsShs w M (.slice A l.length c) l) (hlen : l.length ≤ 140737488355328) :
    Calls Try.prog 90 #[.slice A l.length c, .func (.func 91) #[] #[]] w fun e w' => e = .returned (.bool (!l.all shOk)) ∧ Below w.heap.size w w' := by
  obtain ⟨A', c', e', h1, h2, h3⟩ := h
  cases e'
  have C := containsFunc2_any w M A l.length c _ hlen h3 91 #[] (fun i => !shOk (l.getD i (0, 0))) (enters_of Try.func91 (by kernel_rfl) rfl) (fun i hi wr hwr => join1_any (l.getD i (0, 0)).1 (l.getD i (0, 0)).2 wr)
  rw [range_any' l (0, 0) (fun s => !shOk s), any_not] at C
  exact C
/-- Join's second question -/
theorem joinAsk2_any (w : World) (M : Nat → Prop) (A : Option Addr) (c : Nat) (l : List (Nat × Nat)) (h : IsShs w M (.slice A l.length c) l) (hlen : l.length ≤ 140737488355328) (M' : Nat → Prop) (g : Nat) (v : Value) (f : List (Nat × Nat)) (hg : w.cell? ⟨g, 0, none⟩ = some v) (hf : IsShs w M' v f) (hq : ShQ f) (hql : ShQ l) :
    Calls Try.prog 90 #[.slice A l.length c, .func (.func 93) #[] #[.pointer (some ⟨g, 0, none⟩)]] w fun e w' => e = .returned (.bool (l.any fun s => neN (atD f s.1) s.2)) ∧ Below w.heap.size w w' := by
  obtain ⟨A', c', e', h1, h2, h3⟩ := h
  cases e'
  have hgl : g < w.heap.size := lt_of_cell hg
  have C := containsFunc2_any w M A l.length c _ hlen h3 93 #[.pointer (some ⟨g, 0, none⟩)] (fun i => neN (atD f (l.getD i (0, 0)).1) (l.getD i (0, 0)).2) (enters_of Try.func93 (by kernel_rfl) rfl) (fun i hi wr hwr => join2_any wr M' g v f ((hwr.cell (p := ⟨g, 0, none⟩) hgl).trans hg) (hf.below hwr) hq (l.getD i (0, 0)).1 (l.getD i (0, 0)).2 (hql.getD i).1)
  rw [range_any' l (0, 0) (fun s => neN (atD f s.1) s.2)] at C
  exact C
theorem joinD_yes {l : List (Nat × Nat)} {T : Nat} (t1 : 1 ≤ T) (t2 : T ≤ 24) (h : l.all shOk = true) : joinD l (T : Int) = if (firstD l T).length < T ∨ (l.any fun s => neN (atD (firstD l T) s.1) s.2) = true then (0, 230) else (atD (firstD l T) 0, 0) := by
  unfold joinD
  rw [if_pos ⟨⟨by omega, by omega⟩, h⟩, Int.toNat_natCast]
  have e : (l.any fun s => neN (atD (firstD l T) s.1) s.2) = !(l.all fun s => atD (firstD l T) s.1 == s.2) := by
    rw [← any_not]
    congr 1
    funext s
    unfold neN
    rw [Bool.eq_iff_iff]
    simp
    omega
  rw [e]
  congr 1
  simp
theorem fstTo_all (l : List (Nat × Nat)) (T : Nat) : fstTo l T l.length = firstD l T := by unfold fstTo; rw [List.take_length]
set_option maxRecDepth 100000 in
set_option maxHeartbeats 2000000 in
theorem join_go (w : World) (M : Nat → Prop) (v : Value) (l : List (Nat × Nat)) (h : IsShs w M v l) (hlen : l.length ≤ 8796093022208) (T : Nat) (t1 : 1 ≤ T) (t2 : T ≤ 24) (hall : l.all shOk = true) :
    Calls Try.prog 56 #[v, .int .i64 (T : Int)] w (NumE w (joinD l (T : Int))) := by
  have H := Lib.hid h
  have hql : ShQ l := fun s hs => by
    have := shOk_lt (List.all_eq_true.1 hall s hs)
    exact ⟨Nat.lt_of_le_of_lt this.2.1 (by decide), this.2.2⟩
  have hq64 : Hid (∀ s ∈ l, s.1 < 18446744073709551616) := fun s hs => Nat.lt_trans (hql s hs).1 (by decide)
  have HQL := Lib.hid hql
  have HALL := Lib.hid hall
  obtain ⟨A, c, rfl, h1, h2, -⟩ := h
  have C1 := fun W (hB : Below w.heap.size w W) => Lib.hid (joinAsk_any W M A c l (H.out.below hB) (by omega))
  rw [hall] at C1
  have b1 : decide ((T : Int) < 1) = false := by simp; omega
  have b2 : decide ((24 : Int) < (T : Int)) = false := by simp; omega
  have hmm := @run_makeMap Try.prog
  clear hql hall
  go_enter Try.func56, Try.ntmps56
  go_wp2_with fail
  refine (C1 _ (Below.refl _ _)).out.mono ?_
  rintro e w1 ⟨rfl, hb1⟩
  have HB1 := Lib.hid hb1
  clear hb1
  go_wp2_with fail
  obtain ⟨W2, hW2⟩ : ∃ W2, W2 = (w1.alloc (.map #[] 0)).alloc (.cells #[.slice none 0 0] 54) := ⟨_, rfl⟩
  have hz2 : W2.heap.size = w1.heap.size + 2 := by rw [hW2]; simp
  have hS2 : Hid (SetB Try.prog 23 4 .u64 W2 w1.heap.size 0 (seenT l 0)) := by rw [hW2]; exact (SetB.made w1).alloc _
  have hG2 : Hid (W2.heap[w1.heap.size + 1]? = some (.cells #[.slice none 0 0] 54 (0, 0))) := by rw [hW2]; show _ = _; simp only [heap_alloc_if, World.size_alloc]; rw [if_pos trivial]
  have HB2 : Hid (Below w.heap.size w W2) := by rw [hW2]; exact (HB1.out.alloc HB1.out.size _).alloc (by have := HB1.out.size; simp; omega) _
  rw [← hW2]
  have hwg : w.heap.size ≤ w1.heap.size := HB1.out.size
  generalize w1.heap.size = g at hS2 hG2 hz2 hwg ⊢
  clear hW2 hmm
  go_loopw [23] (fun i wr => ∃ (k : Nat) (v : Value), k ≤ l.length ∧ i = .int .i64 k ∧ Hid (wr.heap[g + 1]? = some (.cells #[v] 54 (0, 0))) ∧ Hid (SetB Try.prog 23 4 .u64 wr g k (seenT l k)) ∧ Hid (wr.ownsRow w.heap.size 59 2 v (fstTo l T k).length (rowS (fstTo l T k))) ∧ Hid (Below w.heap.size w wr)) (fun i _ => l.length - (intOf i).toNat)
  case atStart => exact ⟨0, _, Nat.zero_le _, rfl, hG2, hS2, Lib.hid (own_nil _ _ _ _), HB2⟩
  case round =>
    obtain ⟨k, v, hk, rfl, HG, HS, HO, HB⟩ := hrel
    by_cases hlt : k < l.length
    · obtain ⟨b, off, rfl, hbl, hck, hck1⟩ := H.out.at_ HB.out hlt
      have hlt' : (k : Int) < (l.length : Int) := by omega
      have HU := Lib.hid (seenT_succ hlt)
      have HSAME := Lib.hid (step_same (T := T) hlt)
      have HADD := Lib.hid (step_add (T := T) hlt)
      have HX := Lib.hid (hq64.out _ (List.getElem_mem hlt))
      have HLS := Lib.hid (show l[k] = (l[k].1, l[k].2) from rfl)
      generalize l[k] = s at hck hck1 HU HSAME HADD HX HLS
      obtain ⟨X, Y⟩ := s
      dsimp only at hck hck1
      have hwf : (Lit.int .u64 (X : Int)).wf = true := by have := HX.out; simp [Lit.wf, IntKind.min, IntKind.max, IntKind.signed, IntKind.bits]; omega
      have HWF := Lib.hid hwf
      have hbr : b < wr.heap.size := Nat.lt_of_lt_of_le hbl HB.out.size
      have hgr : g + 1 < wr.heap.size := lt_heap HG.out
      obtain ⟨A1, c1, rfl⟩ := own_slice HO.out
      have hg1 := cell_of (j := 0) HG.out rfl
      have fg1 := frozen_of (j := 0) HG.out
      have hS1 := Lib.hid (HS.out.alloc (.cells #[.int .u64 (X : Int), .int .u64 (Y : Int)] 59))
      have HLK := Lib.hid (fstTo_len l T k)
      have hlk : (fstTo l T k).length ≤ 24 := by have := HLK.out; omega
      clear hwf
      by_cases hsb : seenT l k (X : Int) = true
      · have HSB := Lib.hid hsb
        go_wp2_with (first | (at_lookup; refine wpList_lookup_set (w := _) rfl _ _ 43 rfl Try.underlying23 Try.underlying43 Try.underlying4 (Try.zeroBool _) rfl hS1.out _ rfl HWF.out ?_) | (at_mapUpdate; refine wpList_update_set (w := _) rfl _ _ _ 43 rfl Try.underlying23 Try.underlying43 Try.underlying4 rfl hS1.out (by unfold maxLen; omega) _ rfl HWF.out true rfl ?_; intro w8 hs8 hg8))
        have HW1 : Hid (Below wr.heap.size wr (wr.alloc (.cells #[.int .u64 (X : Int), .int .u64 (Y : Int)] 59))) := (Below.refl _ _).alloc (Nat.le_refl _) _
        have HG8 := Lib.hid ((hg8.block (g + 1) (by simp; omega) (by simp)).trans ((HW1.out.block (g + 1) hgr).trans HG.out))
        have HO8 := Lib.hid ((HO.out.alloc _).kept hg8 (.inr (own_ne (HO.out.alloc _) hS1.out.heap.choose_spec.choose_spec (fun _ _ h => by cases h))))
        have HB8 := Lib.hid ((HB.out.alloc HB.out.size (.cells #[.int .u64 (X : Int), .int .u64 (Y : Int)] 59)).grown hg8 (by have := HB.out.size; simp; omega) (fun k e => by cases e; exact hwg))
        have HS8 : Hid (SetB Try.prog 23 4 .u64 w8 g (k + 1) (seenT l (k + 1))) := by rw [← HU.out]; exact hs8
        clear hs8 hg8
        go_wp2_with fail
        go_roundw
        case rel => exact ⟨k + 1, _, by omega, by go_num, HG8, HS8, Lib.hid (by rw [HSAME.out (.inl HSB.out)]; exact HO8.out), HB8⟩
        case measure => simp [intOf]; omega

      · have hsb : seenT l k (X : Int) = false := by simpa using hsb
        have HSB := Lib.hid hsb
        by_cases hfl : (fstTo l T k).length < T
        · have hfl' : ((fstTo l T k).length : Int) < (T : Int) := by omega
          have HA := Lib.hid (HADD.out hsb hfl)
          have MS := Lib.hid (rowS_snoc (fstTo l T k) (X, Y))
          obtain ⟨iu, hiu, hz0, hz1, hz3⟩ := info_parts Try.info_sh
          have HIU := Lib.hid (And.intro hiu (And.intro hz0 (And.intro hz1 hz3)))
          clear hiu hz0 hz1 hz3
          go_wp2_with (first | (at_lookup; refine wpList_lookup_set (w := _) rfl _ _ 43 rfl Try.underlying23 Try.underlying43 Try.underlying4 (Try.zeroBool _) rfl hS1.out _ rfl HWF.out ?_) | (at_builtin; refine wpList_append_cells _ rfl _ _ 54 rfl w.heap.size 59 iu (.agg #[.int .u64 0, .int .u64 0]) 2 16 Try.underlying54 HIU.out.1 HIU.out.2.1 HIU.out.2.2.1 HIU.out.2.2.2 rfl (by decide) _ (fstTo l T k).length _ rfl ((HO.out.alloc _).alloc _) (some ⟨wr.heap.size + 1, 0, none⟩) 1 1 [u64v X, u64v Y] rfl rfl ?c1 ?c2 ?c3 ?c4 ?c5 ?_))
          case c1 => first | exact fun _ _ h => h | exact fun _ => ⟨_, rfl, by have hh := cell_two_new (wr.alloc (.cells #[.int .u64 (X : Int), .int .u64 (Y : Int)] 59)) (u64v X) (u64v Y) 59; rw [World.size_alloc] at hh; exact hh⟩
          case c2 => first | exact ⟨rfl, rfl⟩ | exact two_u64 _ _
          case c3 => unfold maxLen; omega
          case c4 => omega
          case c5 => have := HB.out.size; simp; omega
          intro v7 w7 hown7 hgrow7 _
          obtain ⟨A7, c7, rfl⟩ := own_slice hown7
          rw [MS.out] at hown7
          have hPre : Below wr.heap.size wr ((wr.alloc (.cells #[.int .u64 (X : Int), .int .u64 (Y : Int)] 59)).alloc (.cells #[.int .u64 (X : Int), .int .u64 (Y : Int)] 59)) := ((Below.refl _ _).alloc (Nat.le_refl _) _).alloc (by simp) _
          have hHG := (hPre.block (g + 1) hgr).trans HG.out
          have hs0 : ((wr.alloc (.cells #[.int .u64 (X : Int), .int .u64 (Y : Int)] 59)).alloc (.cells #[.int .u64 (X : Int), .int .u64 (Y : Int)] 59)).heap[wr.heap.size]? = some (.cells #[.int .u64 (X : Int), .int .u64 (Y : Int)] 59 (0, 0)) := (by simp only [heap_alloc_if, World.size_alloc]; repeat (first | rw [if_pos trivial] | rw [if_pos (by omega)] | rw [if_neg (by omega)]))
          have hown0 := (HO.out.alloc (.cells #[.int .u64 (X : Int), .int .u64 (Y : Int)] 59)).alloc (.cells #[.int .u64 (X : Int), .int .u64 (Y : Int)] 59)
          have hset0 := hS1.out.alloc (.cells #[.int .u64 (X : Int), .int .u64 (Y : Int)] 59)
          have hG7 := (hgrow7.block (g + 1) (lt_heap hHG) (fun e => own_ne hown0 hHG (by intro cs z e; cases e) e.symm)).trans hHG
          have hS7 := hset0.kept hgrow7 (fun e => own_ne hown0 hset0.heap.choose_spec.choose_spec (fun _ _ h => by cases h) e.symm)
          have hbx7 : w7.heap[wr.heap.size]? = some (.cells #[.int .u64 (X : Int), .int .u64 (Y : Int)] 59 (0, 0)) := by
            refine (hgrow7.block wr.heap.size (lt_heap hs0) (fun e => ?_)).trans hs0
            have := HO.out.lt _ e.symm
            omega
          have HB7 := Lib.hid (((HB.out.alloc HB.out.size _).alloc (by have := HB.out.size; simp; omega) _).grown hgrow7 (by have := HB.out.size; simp; omega) (own_base HO.out))
          have g7 := cell_of (j := 0) hG7 rfl
          have fg7 := frozen_of (j := 0) hG7
          have x7 := cell_of (j := 0) hbx7 rfl
          have HG7 := Lib.hid hG7
          have HO7 := Lib.hid hown7
          have hne7 := own_ne hown7 hG7 (by intro cs z e; cases e)
          have HS7 := Lib.hid (hS7.set (g := g + 1) (by omega) 0 (.slice A7 ((fstTo l T k).length + 1) c7))
          have HO7s := Lib.hid (ownsRow_setCell_other hown7 (a := ⟨g + 1, 0, none⟩) hne7 (.slice A7 ((fstTo l T k).length + 1) c7))
          clear hown7 hgrow7 hPre hHG hs0 hown0 hset0 hG7 hS7 hbx7 hne7 hck hck1 hg1 fg1
          go_wp2_with (at_mapUpdate; refine wpList_update_set (w := _) rfl _ _ _ 43 rfl Try.underlying23 Try.underlying43 Try.underlying4 rfl HS7.out (by unfold maxLen; omega) _ rfl HWF.out true rfl ?_; intro w8 hs8 hg8)
          have hGs : (w7.setCell ⟨g + 1, 0, none⟩ (.slice A7 ((fstTo l T k).length + 1) c7)).heap[g + 1]? = some (.cells #[.slice A7 ((fstTo l T k).length + 1) c7] 54 (0, 0)) := by rw [heap_set_if, if_pos rfl, HG7.out]; rfl
          have HG8 := Lib.hid ((hg8.block (g + 1) (lt_heap hGs) (by simp)).trans hGs)
          have HO8 := Lib.hid (HO7s.out.kept hg8 (.inr (own_ne HO7s.out HS7.out.heap.choose_spec.choose_spec (fun _ _ h => by cases h))))
          have HB8 := Lib.hid ((HB7.out.setCell (p := ⟨g + 1, 0, none⟩) (by dsimp only; omega) (.slice A7 ((fstTo l T k).length + 1) c7)).grown hg8 (by have := HB7.out.size; simp [World.setCell]; omega) (fun k e => by cases e; exact hwg))
          have HS8 : Hid (SetB Try.prog 23 4 .u64 w8 g (k + 1) (seenT l (k + 1))) := by rw [← HU.out]; exact hs8
          clear hs8 hg8 hGs
          go_wp2_with fail
          go_roundw
          case rel => exact ⟨k + 1, _, by omega, by go_num, HG8, HS8, Lib.hid (by rw [HA.out, List.length_append]; exact HO8.out), HB8⟩
          case measure => simp [intOf]; omega
        · have hfl' : ¬ ((fstTo l T k).length : Int) < (T : Int) := by omega
          have HFL := Lib.hid (show T ≤ (fstTo l T k).length by omega)
          go_wp2_with (first | (at_lookup; refine wpList_lookup_set (w := _) rfl _ _ 43 rfl Try.underlying23 Try.underlying43 Try.underlying4 (Try.zeroBool _) rfl hS1.out _ rfl HWF.out ?_) | (at_mapUpdate; refine wpList_update_set (w := _) rfl _ _ _ 43 rfl Try.underlying23 Try.underlying43 Try.underlying4 rfl hS1.out (by unfold maxLen; omega) _ rfl HWF.out true rfl ?_; intro w8 hs8 hg8))
          have HW1 : Hid (Below wr.heap.size wr (wr.alloc (.cells #[.int .u64 (X : Int), .int .u64 (Y : Int)] 59))) := (Below.refl _ _).alloc (Nat.le_refl _) _
          have HG8 := Lib.hid ((hg8.block (g + 1) (by simp; omega) (by simp)).trans ((HW1.out.block (g + 1) hgr).trans HG.out))
          have HO8 := Lib.hid ((HO.out.alloc _).kept hg8 (.inr (own_ne (HO.out.alloc _) hS1.out.heap.choose_spec.choose_spec (fun _ _ h => by cases h))))
          have HB8 := Lib.hid ((HB.out.alloc HB.out.size (.cells #[.int .u64 (X : Int), .int .u64 (Y : Int)] 59)).grown hg8 (by have := HB.out.size; simp; omega) (fun k e => by cases e; exact hwg))
          have HS8 : Hid (SetB Try.prog 23 4 .u64 w8 g (k + 1) (seenT l (k + 1))) := by rw [← HU.out]; exact hs8
          clear hs8 hg8
          go_wp2_with fail
          go_roundw
          case rel => exact ⟨k + 1, _, by omega, by go_num, HG8, HS8, Lib.hid (by rw [HSAME.out (.inr HFL.out)]; exact HO8.out), HB8⟩
          case measure => simp [intOf]; omega

    · have hnl : ¬ (k : Int) < (l.length : Int) := by omega
      obtain rfl : k = l.length := by omega
      rw [fstTo_all] at HO
      obtain ⟨A1, c1, rfl⟩ := own_slice HO.out
      have hg1 := cell_of (j := 0) HG.out rfl
      have hfm : ∀ s ∈ firstD l T, s ∈ l := fun s hs => fstTo_mem (T := T) l.length s (by rw [fstTo_all]; exact hs)
      have HF := Lib.hid (IsShs.ofOwn HO.out)
      have HQF : Hid (ShQ (firstD l T)) := fun s hs => HQL.out s (hfm s hs)
      have HJ := Lib.hid (joinD_yes t1 t2 HALL.out)
      clear hfm
      by_cases hfl : (firstD l T).length < T
      · have hfl' : ((firstD l T).length : Int) < (T : Int) := by omega
        have HFL := Lib.hid hfl
        go_wp2_with fail
        go_ret2
        exact ⟨by rw [HJ.out, if_pos (.inl HFL.out)]; rfl, HB.out⟩
      · have hfl' : ¬ ((firstD l T).length : Int) < (T : Int) := by omega
        have HFL := Lib.hid hfl
        have C2 := Lib.hid (joinAsk2_any wr M A c l (H.out.below HB.out) (by omega) _ (g + 1) _ (firstD l T) hg1 HF.out HQF.out HQL.out)
        have C3 := fun W (hB : Below wr.heap.size wr W) => Lib.hid (at_any W _ _ (firstD l T) (HF.out.below hB) HQF.out 0 (by decide))
        have hgr : g + 1 < wr.heap.size := lt_heap HG.out
        obtain ⟨sb, hsb⟩ : ∃ sb, (l.any fun s => neN (atD (firstD l T) s.1) s.2) = sb := ⟨_, rfl⟩
        rw [hsb] at C2
        have HSB := Lib.hid hsb
        clear hsb
        cases sb with
        | true =>
          go_wp2_with fail
          refine C2.out.mono ?_
          rintro e w3 ⟨rfl, hb3⟩
          have HB3 := Lib.hid (HB.out.trans (hb3.mono HB.out.size))
          clear hb3 hg1
          go_wp2_with fail
          go_ret2
          exact ⟨by rw [HJ.out, if_pos (.inr HSB.out)]; rfl, HB3.out⟩
        | false =>
          go_wp2_with fail
          refine C2.out.mono ?_
          rintro e w3 ⟨rfl, hb3⟩
          have HB3 := Lib.hid (HB.out.trans (hb3.mono HB.out.size))
          have hg3 := (hb3.cell (p := ⟨g + 1, 0, none⟩) hgr).trans hg1
          have HBB := Lib.hid hb3
          clear hb3 hg1
          go_wp2_with fail
          refine (C3 _ HBB.out).out.mono ?_
          rintro e w4 ⟨rfl, hb4⟩
          have HB4 := Lib.hid (HB3.out.trans (hb4.mono HB3.out.size))
          clear hb4 hg3
          go_wp2_with fail
          go_ret2
          exact ⟨by rw [HJ.out, if_neg (fun h => h.elim HFL.out (fun h => by rw [HSB.out] at h; cases h))]; rfl, HB4.out⟩
end Go.Proofs.Ytgaanndidcdbpaa
namespace Go.Proofs.Ytgaanndidcdbpaa
open Go.RowKit Go.Shelf

theorem join_any (w : World) (M : Nat → Prop) (v : Value) (l : List (Nat × Nat)) (h : IsShs w M v l) (hlen : l.length ≤ 8796093022208) (t : Int) :
    Calls Try.prog 56 #[v, .int .i64 t] w (NumE w (joinD l t)) := by
  by_cases ht : 1 ≤ t ∧ t ≤ 24
  · obtain ⟨T, rfl⟩ : ∃ T : Nat, t = (T : Int) := ⟨t.toNat, by omega⟩
    by_cases hall : l.all shOk = true
    · exact join_go w M v l h hlen T (by omega) (by omega) hall
    · have hall : l.all shOk = false := by simpa using hall
      rw [joinD_bad hall]
      have H := Lib.hid h
      obtain ⟨A, c, rfl, h1, h2, -⟩ := h
      have C1 := fun W (hB : Below w.heap.size w W) => Lib.hid (joinAsk_any W M A c l (H.out.below hB) (by omega))
      rw [hall] at C1
      have b1 : decide ((T : Int) < 1) = false := by simp; omega
      have b2 : decide ((24 : Int) < (T : Int)) = false := by simp; omega
      clear hall
      go_enter Try.func56, Try.ntmps56
      go_wp2_with fail
      refine (C1 _ (Below.refl _ _)).out.mono ?_
      rintro e w1 ⟨rfl, hb1⟩
      have HB1 := Lib.hid hb1
      clear hb1
      go_wp2_with fail
      go_ret2
      exact ⟨rfl, HB1.out⟩
  · rw [joinD_out ht]
    by_cases h1 : t < 1
    · have b1 : decide (t < 1) = true := by simpa using h1
      go_enter Try.func56, Try.ntmps56
      go_wp2_with fail
      go_ret2
      exact ⟨rfl, Below.refl _ _⟩
    · have b1 : decide (t < 1) = false := by simpa using h1
      have b2 : decide (24 < t) = true := by simp; omega
      go_enter Try.func56, Try.ntmps56
      go_wp2_with fail
      go_ret2
      exact ⟨rfl, Below.refl _ _⟩
theorem any_take_succ {α : Type} (f : List α) (p : α → Bool) (j : Nat) (h : j < f.length) : (f.take (j + 1)).any p = ((f.take j).any p || p f[j]) := by
  rw [List.take_succ_eq_append_getElem h, List.any_append, List.any_cons, List.any_nil, Bool.or_false]
theorem step_add' {l : List (Nat × Nat)} {T k : Nat} (hk : k < l.length) (h : (fstTo l T k).any (fun u => u.1 == l[k].1) = false) (h2 : (fstTo l T k).length < T) : fstTo l T (k + 1) = fstTo l T k ++ [l[k]] := by
  rw [fstTo_succ hk]; unfold firstStep; rw [if_pos ⟨h, h2⟩]
theorem step_same' {l : List (Nat × Nat)} {T k : Nat} (hk : k < l.length) (h : (fstTo l T k).any (fun u => u.1 == l[k].1) = true ∨ T ≤ (fstTo l T k).length) : fstTo l T (k + 1) = fstTo l T k := by
  rw [fstTo_succ hk]
  unfold firstStep
  rw [if_neg]
  rintro ⟨h1, h2⟩
  rcases h with h | h
  · rw [h] at h1; cases h1
  · omega
end Go.Proofs.Ytgaanndidcdbpaa
