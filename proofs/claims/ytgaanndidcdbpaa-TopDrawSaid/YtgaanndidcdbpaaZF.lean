import Derived.Test.YtgaanndidcdbpaaGen
import Derived.Test.YtgaanndidcdbpaaZA
import Derived.Maps.OwnSet
import Derived.Test.YtgaanndidcdbpaaZC
import Derived.BigQuiet
import Derived.Lib.SliceRun
import Derived.Deep.RegionLaw
namespace Go.Proofs.Ytgaanndidcdbpaa
open Go.RowKit

def i64v (x : Int) : Value := .int .i64 x
/-- a slice of ints -/
def IsInts (w : World) (M : Nat → Prop) (v : Value) (xs : List Int) : Prop := IsSl w M 1 v xs.length (fun i _ => .int .i64 (xs.getD i 0))
/-- element j of ints -/
def nthI (xs : List Int) (j : Nat) : Int := xs.getD j 0
theorem nthI_get {xs : List Int} {q : Nat} (h : q < xs.length) : nthI xs q = xs[q] := by unfold nthI; rw [List.getD_eq_getElem?_getD, List.getElem?_eq_getElem h]; rfl
theorem IsInts.at_ {w wr : World} {M : Nat → Prop} {A : Option Addr} {n c k : Nat} {xs : List Int} (h : IsInts w M (.slice A n c) xs) (hb : Below w.heap.size w wr) (hk : k < xs.length) :
    ∃ b off, A = some ⟨b, off, none⟩ ∧ b < w.heap.size ∧ wr.cell? ⟨b, off + k, none⟩ = some (.int .i64 (nthI xs k)) := by
  obtain ⟨A', c', e, _, _, h3⟩ := h
  cases e
  obtain ⟨b, off, e, _, hl, hc⟩ := h3.at1 hb hk
  exact ⟨b, off, e, hl, hc⟩
/-- cell j of an edge -/
def edc (s : Int × Int) (j : Nat) : Value := i64v (if j = 0 then s.1 else s.2)
/-- a slice of pairs of ints -/
def IsEdges (w : World) (M : Nat → Prop) (v : Value) (xs : List (Int × Int)) : Prop := IsSl w M 2 v xs.length (fun i j => edc (xs.getD i (0, 0)) j)
theorem IsEdges.at_ {w wr : World} {M : Nat → Prop} {A : Option Addr} {n c k : Nat} {xs : List (Int × Int)} (h : IsEdges w M (.slice A n c) xs) (hb : Below w.heap.size w wr) (hk : k < xs.length) :
    ∃ b off, A = some ⟨b, off, none⟩ ∧ b < w.heap.size ∧ wr.cell? ⟨b, off + k * 2, none⟩ = some (.int .i64 xs[k].1) ∧ wr.cell? ⟨b, off + k * 2 + 1, none⟩ = some (.int .i64 xs[k].2) := by
  obtain ⟨A', c', e, _, _, h3⟩ := h
  cases e
  obtain ⟨b, off, e, _, hl, hc, hc1⟩ := h3.at2 hb hk
  refine ⟨b, off, e, hl, ?_, ?_⟩
  · rw [hc, List.getD_eq_getElem?_getD, List.getElem?_eq_getElem hk]; rfl
  · rw [hc1, List.getD_eq_getElem?_getD, List.getElem?_eq_getElem hk]; rfl
theorem IsInts.ofOwn {w : World} {base e : Nat} {v : Value} {xs : List Int} (h : w.ownsRow base e 1 v xs.length (xs.map i64v)) : IsInts w (fun b => base ≤ b) v xs :=
  (IsSl.ofOwn h (M := fun b => base ≤ b) fun _ hb => hb).congr fun i j hi hj => by
    obtain rfl : j = 0 := by omega
    rw [Nat.mul_one, Nat.add_zero, List.getD_eq_getElem?_getD, List.getElem?_map, List.getElem?_eq_getElem hi, List.getD_eq_getElem?_getD, List.getElem?_eq_getElem hi]
    rfl
theorem one_i64 (x : Int) : ∀ u ∈ [i64v x], u.oneCell' = true := by intro u hu; simp at hu; subst hu; rfl
/-- the first part of a slice of ints -/
theorem IsInts.take {w : World} {M : Nat → Prop} {A : Option Addr} {n c : Nat} {xs : List Int} (h : IsInts w M (.slice A n c) xs) (k : Nat) (hk : k ≤ xs.length) : IsInts w M (.slice A k c) (xs.take k) := by
  obtain ⟨A', c', e, h1, h2, h3⟩ := h
  cases e
  refine ⟨A, c, by rw [List.length_take, Nat.min_eq_left hk], by rw [List.length_take]; omega, h2, fun hn => ?_⟩
  rw [List.length_take, Nat.min_eq_left hk] at hn
  obtain ⟨b, off, e, hM, hc⟩ := h3 (by omega)
  refine ⟨b, off, e, hM, fun i j hi hj => ?_⟩
  rw [List.length_take, Nat.min_eq_left hk] at hi
  rw [hc i j (by omega) hj]
  simp [List.getD_eq_getElem?_getD, hi]
end Go.Proofs.Ytgaanndidcdbpaa
/- Beacons in plain Lean: what Check asks. No program here. -/
namespace Go.Proofs.Ytgaanndidcdbpaa
structure ComD where
  club : Int
  checks : List Nat
structure RevD where
  club : Int
  num : Nat
structure OpnD where
  club : Int
  frm : Int
  sh : Nat × Nat
structure BeaD where
  clubs : List Int
  thr : Int
  rng : Nat
  coms : List ComD
  revs : List RevD
  opns : List OpnD
def com0 : ComD := ⟨0, []⟩
def rev0 : RevD := ⟨0, 0⟩
def opn0 : OpnD := ⟨0, 0, (0, 0)⟩
def comN (l : List ComD) (i : Nat) : ComD := l.getD i com0
def revN (l : List RevD) (i : Nat) : RevD := l.getD i rev0
def opnN (l : List OpnD) (i : Nat) : OpnD := l.getD i opn0
/-- club i is right -/
def clubOk (cl : List Int) (i : Nat) : Prop := 0 ≤ nthI cl i ∧ nthI cl i < 192 ∧ (0 < i → nthI cl (i - 1) < nthI cl i)
instance (cl : List Int) (i : Nat) : Decidable (clubOk cl i) := by unfold clubOk; infer_instance
def clubsTo (cl : List Int) (k : Nat) : Prop := ∀ i, i < k → clubOk cl i
theorem clubsTo_zero {cl : List Int} : clubsTo cl 0 := fun _ h => absurd h (by omega)
theorem clubsTo_succ {cl : List Int} {k : Nat} (h : clubsTo cl k) (hk : clubOk cl k) : clubsTo cl (k + 1) := fun i hi => by
  rcases Nat.lt_or_ge i k with h1 | h1
  · exact h i h1
  · rw [show i = k by omega]; exact hk
/-- what New asks -/
structure NewOk (cl : List Int) (t : Int) (of : Nat) : Prop where
  n2 : 2 ≤ cl.length
  n24 : cl.length ≤ 24
  t1 : 1 ≤ t
  tn : t < cl.length
  o1 : 1 ≤ of
  o60 : of ≤ 1152921504606846976
  club : clubsTo cl cl.length
instance (cl : List Int) (k : Nat) : Decidable (clubsTo cl k) := by unfold clubsTo; infer_instance
instance (cl : List Int) (t : Int) (of : Nat) : Decidable (NewOk cl t of) :=
  decidable_of_iff (2 ≤ cl.length ∧ cl.length ≤ 24 ∧ 1 ≤ t ∧ t < cl.length ∧ 1 ≤ of ∧ of ≤ 1152921504606846976 ∧ clubsTo cl cl.length)
    ⟨fun ⟨a, b, c, d, e, f, g⟩ => ⟨a, b, c, d, e, f, g⟩, fun ⟨a, b, c, d, e, f, g⟩ => ⟨a, b, c, d, e, f, g⟩⟩
def newB (cl : List Int) (t : Int) (of : Nat) : Bool := decide (NewOk cl t of)
def bea0 : BeaD := ⟨[], 0, 0, [], [], []⟩
def newD (cl : List Int) (t : Int) (of : Nat) : BeaD × Int := if newB cl t of then (⟨cl, t, of, [], [], []⟩, 0) else (bea0, 240)
/-- the position of a club: the last one -/
def placeTo (cl : List Int) : Nat → Int → Option Nat
  | 0, _ => none
  | k + 1, c => if c = nthI cl k then some k else placeTo cl k c
def placeD (b : BeaD) (c : Int) : Option Nat := placeTo b.clubs b.clubs.length c
/-- the commitment of a club: the last one -/
def comTo (l : List ComD) : Nat → Int → Option ComD
  | 0, _ => none
  | k + 1, c => if c = (comN l k).club then some (comN l k) else comTo l k c
def comAt (b : BeaD) (c : Int) : Option ComD := comTo b.coms b.coms.length c
/-- how many keys f 0 .. f (k - 1) differ -/
def cntTo {X : Type} [DecidableEq X] (f : Nat → X) : Nat → Nat
  | 0 => 0
  | k + 1 => if (List.range k).any (fun i => decide (f k = f i)) then cntTo f k else cntTo f k + 1
def doneB (b : BeaD) : Bool := decide (cntTo (fun i => (comN b.coms i).club) b.coms.length = b.clubs.length)
def distB {X : Type} [DecidableEq X] (f : Nat → X) (n : Nat) : Bool := decide (cntTo f n = n)
def memB (b : BeaD) (c : Int) : Bool := (placeD b c).isSome
/-- commitFits, revealFits, openFits -/
def comB (b : BeaD) (c : ComD) : Bool := memB b c.club && (decide ((c.checks.length : Int) = b.thr) && c.checks.all elOk)
def revB (b : BeaD) (r : RevD) : Bool := match comAt b r.club with
  | none => false
  | some c => memB b r.club && (decide (r.num < 1152921504606845789) && (decide (0 < c.checks.length) && Nat.beq (pw 4 r.num) (c.checks.getD 0 0)))
def opnB (b : BeaD) (o : OpnD) : Bool := match comAt b o.club with
  | none => false
  | some c => memB b o.club && (memB b o.frm && (decide (o.club ≠ o.frm) && (Nat.beq o.sh.1 ((placeD b o.frm).getD 0 + 1) && verD c.checks o.sh)))
/-- the eight conditions -/
def condB (b : BeaD) : Nat → Bool
  | 0 => newB b.clubs b.thr b.rng
  | 1 => distB (fun i => (comN b.coms i).club) b.coms.length
  | 2 => !(List.range b.coms.length).any (fun i => !comB b (comN b.coms i))
  | 3 => doneB b || decide (b.revs.length + b.opns.length = 0)
  | 4 => distB (fun i => (revN b.revs i).club) b.revs.length
  | 5 => distB (fun i => ((opnN b.opns i).club, (opnN b.opns i).frm)) b.opns.length
  | 6 => !(List.range b.revs.length).any (fun i => !revB b (revN b.revs i))
  | _ => !(List.range b.opns.length).any (fun i => !opnB b (opnN b.opns i))
def chkTo (b : BeaD) (k : Nat) : Prop := ∀ i, i < k → condB b i = true
instance (b : BeaD) (k : Nat) : Decidable (chkTo b k) := by unfold chkTo; infer_instance
def chkD (b : BeaD) : Int := if chkTo b 8 then 0 else 240
theorem chkTo_zero {b : BeaD} : chkTo b 0 := fun _ h => absurd h (by omega)
theorem chkTo_succ {b : BeaD} {k : Nat} (h : chkTo b k) (hk : condB b k = true) : chkTo b (k + 1) := fun i hi => by
  rcases Nat.lt_or_ge i k with h1 | h1
  · exact h i h1
  · rw [show i = k by omega]; exact hk
theorem chk_no {b : BeaD} {k : Nat} (hk : k < 8) (h : condB b k = false) : chkD b = 240 := by
  unfold chkD; rw [if_neg]; intro e; rw [e k hk] at h; cases h
theorem chk_yes {b : BeaD} (h : chkTo b 8) : chkD b = 0 := if_pos h
end Go.Proofs.Ytgaanndidcdbpaa
/- A map of keys to values of any kind, made by the call. For any seat. -/
namespace Go.Proofs.Ytgaanndidcdbpaa
open Go.RowKit
open Go.Maps (Keyed)
def heldR (v : Value) : Option (DataW Value × List MemPlace) := some (.held v, [])
/-- block b is a map of keys (values kv x of a type X) that answers s, of cnt entries (n: a bound on what was stored) -/
def MapV {X : Type} (kv : X → Value) (P : Program) (kt : TypeId) (w : World) (b n cnt : Nat) (s : X → Option Value) : Prop :=
  ∃ D : DataW Value, w.ownsMap P kt heldR b n D ∧ Maps.size D = cnt ∧ ∀ x l, keyOf P kt (kv x) = some l → Maps.has D l = (s x).isSome ∧ ∀ z, D.atKey l (.held z) = .held ((s x).getD z)
/-- s, but val at key -/
def updM {X : Type} [DecidableEq X] (s : X → Option Value) (key : X) (val : Value) : X → Option Value := fun y => if y = key then some val else s y
section
variable {P : Program} {kt et : TypeId} {w : World} {b n cnt : Nat} {X : Type} {kv : X → Value} {s : X → Option Value}
theorem MapV.made (w : World) : MapV kv P kt (w.alloc (.map #[] 0)) w.heap.size 0 0 (fun _ => none) :=
  ⟨.map [], World.ownsMap_made w P kt _, rfl, fun _ _ _ => ⟨rfl, fun _ => rfl⟩⟩
theorem MapV.lt (h : MapV kv P kt w b n cnt s) : b < w.heap.size := by obtain ⟨D, h, _⟩ := h; exact h.lt
theorem MapV.heap (h : MapV kv P kt w b n cnt s) : ∃ es c, w.heap[b]? = some (.map es c) := by obtain ⟨D, ⟨es, c, hb, _⟩, _⟩ := h; exact ⟨es, c, hb⟩
theorem MapV.block {w' : World} (h : MapV kv P kt w b n cnt s) (hb : w'.heap[b]? = w.heap[b]?) : MapV kv P kt w' b n cnt s := by
  obtain ⟨D, h, hs⟩ := h
  obtain ⟨es, clock, hbb, F, hsz, hD⟩ := h
  exact ⟨D, ⟨es, clock, hb.trans hbb, F, hsz, hD⟩, hs⟩
theorem MapV.below {m : Nat} {w' : World} (h : MapV kv P kt w b n cnt s) (hb : Below m w w') (hm : b < m) : MapV kv P kt w' b n cnt s := h.block (hb.block b hm)
theorem MapV.kept {w' : World} {row : Option Nat} (h : MapV kv P kt w b n cnt s) (hg : w.grownBy w' row) (hne : some b ≠ row) : MapV kv P kt w' b n cnt s := by
  obtain ⟨D, h, hs⟩ := h
  exact ⟨D, h.kept hg hne, hs⟩
theorem MapV.alloc (h : MapV kv P kt w b n cnt s) (o : Obj) : MapV kv P kt (w.alloc o) b n cnt s := h.kept (World.grownBy_alloc w o none) (by simp)
theorem MapV.drew (h : MapV kv P kt w b n cnt s) : MapV kv P kt w.drew b n cnt s := h
theorem MapV.drewN (h : MapV kv P kt w b n cnt s) (m : Nat) : MapV kv P kt (w.drewN m) b n cnt s := h
/-- the look-up's run -/
theorem MapV.look (h : MapV kv P kt w b n cnt s) (K : Keyed P kt) {t : TypeId} (ht : P.underlying t = some (.map kt et)) {z : Value} (hz : (zeroValue et).run P w = .ok z w) {key : X} {l : Lit} (hkey : keyOf P kt (kv key) = some l) :
    (Instr.lookup t (.map (some b)) (kv key) false).run P w = .ok ((s key).getD z) w := by
  obtain ⟨D, hown, -, hs⟩ := h
  obtain ⟨v, ps, hrun, hv⟩ := hown.lookup K ht hz (R := heldR) rfl hkey
  rw [(hs key l hkey).2 z] at hv
  unfold heldR at hv
  have e : v = (s key).getD z ∧ ps = [] := by simpa using hv
  rw [e.1] at hrun
  exact hrun
/-- 'v, ok := m[k]' -/
theorem MapV.look_ok (h : MapV kv P kt w b n cnt s) (K : Keyed P kt) {t : TypeId} (ht : P.underlying t = some (.map kt et)) {z : Value} (hz : (zeroValue et).run P w = .ok z w) {key : X} {l : Lit} (hkey : keyOf P kt (kv key) = some l) :
    (Instr.lookup t (.map (some b)) (kv key) true).run P w = .ok (.tuple #[(s key).getD z, .bool (s key).isSome]) w := by
  obtain ⟨D, hown, -, hs⟩ := h
  obtain ⟨v, ps, hrun, hv⟩ := hown.look_ok K ht hz (R := heldR) rfl hkey
  rw [(hs key l hkey).1] at hrun
  rw [(hs key l hkey).2 z] at hv
  unfold heldR at hv
  have e : v = (s key).getD z ∧ ps = [] := by simpa using hv
  rw [e.1] at hrun
  exact hrun
/-- 'len(m)' -/
theorem MapV.len (h : MapV kv P kt w b n cnt s) {t : TypeId} (ht : P.underlying t = some (.map kt et)) (ty : TypeId) : (Builtin.len_ #[t] ty #[.map (some b)]).run P w = .ok (.int .i64 (cnt : Int)) w := by
  obtain ⟨D, hown, hc, -⟩ := h
  rw [← hc]
  exact hown.len ht ty
theorem MapV.cnt_le (h : MapV kv P kt w b n cnt s) : cnt ≤ n := by obtain ⟨D, hown, hc, -⟩ := h; rw [← hc]; exact hown.size_le
/-- 'm[k] = v' -/
theorem wpList_update_mapV [DecidableEq X] {ops : Array Oper} {rest : List Oper} {o : Oper} {a : Act} {Q : Exit → Act → World → Prop}
    (hg : o.guard = none) (m x v : Operand) (t : TypeId) (hop : o.op = Op.mapUpdate t m x v)
    (K : Keyed P kt) (ht : P.underlying t = some (.map kt et))
    (hm : a.eval m = .map (some b)) (hown : MapV kv P kt w b n cnt s) (hn : n < maxLen) (hinj : ∀ x y, kv x = kv y → x = y) (key : X) (l : Lit) (hx : a.eval x = kv key) (hkey : keyOf P kt (kv key) = some l) (val : Value) (hv : a.eval v = val)
    (hK : ∀ w', MapV kv P kt w' b (n + 1) (if (s key).isSome then cnt else cnt + 1) (updM s key val) → w.grownBy w' (some b) → wpList P ops Q rest (a.put o.dst undef) w') :
    wpList P ops Q (o :: rest) a w := by
  obtain ⟨D, hown, hc, hs⟩ := hown
  refine wpList_mapUpdate_own w hg m x v t hop kt et K ht heldR b n D hm hown hn _ _ _ hx hv hkey (.held val) [] rfl fun w' h1 h2 => hK w' ⟨_, h1, ?_, fun y l' hy => ?_⟩ h2
  · rw [Maps.size_put (hown.tidy K), (hs key l hkey).1, hc]
  · unfold updM
    by_cases e : y = key
    · subst e
      rw [hkey] at hy
      cases hy
      rw [if_pos rfl]
      exact ⟨by rw [Maps.has_put_same hown.isMap (K.key hkey)]; rfl, fun z => by rw [Maps.atKey_put_same hown.isMap (K.key hkey)]; rfl⟩
    · have hne : l' ≠ l := fun e' => e (hinj _ _ (K.inj hy (by rw [e']; exact hkey)))
      rw [if_neg e]
      exact ⟨by rw [Maps.has_put_other hne]; exact (hs y l' hy).1, fun z => by rw [Maps.atKey_put_other hne]; exact (hs y l' hy).2 z⟩
end
end Go.Proofs.Ytgaanndidcdbpaa
/- Beacons in memory. -/
namespace Go.Proofs.Ytgaanndidcdbpaa
open Go.RowKit Go.Shelf
theorem Blk_set {w : World} {g j : Nat} {t : TypeId} {cs : Array Value} (h : w.heap[g]? = some (.cells cs t (0, 0))) (u : Value) : (w.setCell ⟨g, j, none⟩ u).heap[g]? = some (.cells (cs.setIfInBounds j u) t (0, 0)) := by
  simp [World.setCell, Array.getElem?_modify, h]
theorem cell_setO {W : World} {g j : Nat} {u : Value} {p : Addr} (h : p.block ≠ g) : (W.setCell ⟨g, j, none⟩ u).cell? p = W.cell? p := World.cell?_of_block (w := W) (Below.heap_setCell _ _ _ _ h)
def RetE (z : Int) (w : World) (e : Ending) (w' : World) : Prop := e = .returned (.int .i64 z) ∧ Below w.heap.size w w'
def TT (_ : Nat) : Prop := True
/-- cells of reveals and of opened shares -/
def revC (r : RevD) (j : Nat) : Value := if j = 0 then .int .i64 r.club else .int .u64 (r.num : Int)
def opnC (o : OpnD) (j : Nat) : Value := if j = 0 then .int .i64 o.club else if j = 1 then .int .i64 o.frm else if j = 2 then .int .u64 (o.sh.1 : Int) else .int .u64 (o.sh.2 : Int)
def comC (vs : Nat → Value) (l : List ComD) (i j : Nat) : Value := if j = 0 then .int .i64 (comN l i).club else vs i
def IsComs (w : World) (M : Nat → Prop) (v : Value) (l : List ComD) : Prop := ∃ vs : Nat → Value, IsSl w M 2 v l.length (comC vs l) ∧ ∀ i, i < l.length → IsU64 w M (vs i) (comN l i).checks
def IsRevs (w : World) (M : Nat → Prop) (v : Value) (l : List RevD) : Prop := IsSl w M 2 v l.length (fun i j => revC (revN l i) j)
def IsOpns (w : World) (M : Nat → Prop) (v : Value) (l : List OpnD) : Prop := IsSl w M 4 v l.length (fun i j => opnC (opnN l i) j)
def IsBea (w : World) (M : Nat → Prop) (v : Value) (b : BeaD) : Prop :=
  ∃ cv kv rv ov, v = .agg #[cv, .int .i64 b.thr, .int .u64 (b.rng : Int), kv, rv, ov] ∧ IsInts w M cv b.clubs ∧ IsComs w M kv b.coms ∧ IsRevs w M rv b.revs ∧ IsOpns w M ov b.opns
section
variable {w w' : World} {M M' : Nat → Prop} {v : Value} {b : BeaD} {l : List ComD}
theorem IsComs.below (h : IsComs w M v l) (hb : Below w.heap.size w w') : IsComs w' M v l := by
  obtain ⟨vs, h1, h2⟩ := h; exact ⟨vs, IsSl.below h1 hb, fun i hi => IsSl.below (h2 i hi) hb⟩
theorem IsComs.mono (h : IsComs w M v l) (hM : ∀ b, b < w.heap.size → M b → M' b) : IsComs w M' v l := by
  obtain ⟨vs, h1, h2⟩ := h; exact ⟨vs, IsSl.mono h1 hM (by omega), fun i hi => IsSl.mono (h2 i hi) hM (by omega)⟩
theorem IsComs.nil : IsComs w M (.slice none 0 0) [] := ⟨fun _ => .slice none 0 0, IsSl.nil, fun i hi => absurd hi (by simp)⟩
theorem IsComs.len (h : IsComs w M v l) : ∃ A c, v = .slice A l.length c ∧ l.length ≤ c ∧ c ≤ 9223372036854775807 := by
  obtain ⟨vs, ⟨A, c, e, h1, h2, -⟩, -⟩ := h; exact ⟨A, c, e, h1, h2⟩
/-- commitment i -/
theorem IsComs.at_ {A : Option Addr} {n c i : Nat} {wr : World} (h : IsComs w M (.slice A n c) l) (hb : Below w.heap.size w wr) (hi : i < l.length) :
    ∃ g off kA kc, A = some ⟨g, off, none⟩ ∧ g < w.heap.size ∧ wr.cell? ⟨g, off + i * 2, none⟩ = some (.int .i64 (comN l i).club) ∧ wr.cell? ⟨g, off + i * 2 + 1, none⟩ = some (.slice kA (comN l i).checks.length kc) ∧ IsU64 w M (.slice kA (comN l i).checks.length kc) (comN l i).checks := by
  obtain ⟨vs, ⟨A', c', e, _, _, h3⟩, h4⟩ := h
  cases e
  obtain ⟨g, off, e, _, hl, hc, hc1⟩ := h3.at2 hb hi
  have h5 := h4 i hi
  obtain ⟨kA, kc, e5, -⟩ := id h5
  refine ⟨g, off, kA, kc, e, hl, hc, ?_, by rw [← e5]; exact h5⟩
  rw [hc1, ← e5]; rfl
theorem IsBea.below (h : IsBea w M v b) (hb : Below w.heap.size w w') : IsBea w' M v b := by
  obtain ⟨cv, kv, rv, ov, e, h1, h2, h3, h4⟩ := h; exact ⟨cv, kv, rv, ov, e, IsSl.below h1 hb, h2.below hb, IsSl.below h3 hb, IsSl.below h4 hb⟩
theorem IsBea.mono (h : IsBea w M v b) (hM : ∀ b, b < w.heap.size → M b → M' b) : IsBea w M' v b := by
  obtain ⟨cv, kv, rv, ov, e, h1, h2, h3, h4⟩ := h; exact ⟨cv, kv, rv, ov, e, IsSl.mono h1 hM (by omega), h2.mono hM, IsSl.mono h3 hM (by omega), IsSl.mono h4 hM (by omega)⟩
/-- the parts of a beacon -/
theorem IsBea.parts (h : IsBea w M v b) : ∃ cA cc kA kc rA rc oA oc, v = .agg #[.slice cA b.clubs.length cc, .int .i64 b.thr, .int .u64 (b.rng : Int), .slice kA b.coms.length kc, .slice rA b.revs.length rc, .slice oA b.opns.length oc] ∧
    IsInts w M (.slice cA b.clubs.length cc) b.clubs ∧ IsComs w M (.slice kA b.coms.length kc) b.coms ∧ IsRevs w M (.slice rA b.revs.length rc) b.revs ∧ IsOpns w M (.slice oA b.opns.length oc) b.opns := by
  obtain ⟨cv, kv, rv, ov, rfl, h1, h2, h3, h4⟩ := h
  obtain ⟨cA, cc, rfl, -⟩ := id h1
  obtain ⟨kA, kc, rfl, -⟩ := h2.len
  obtain ⟨rA, rc, rfl, -⟩ := id h3
  obtain ⟨oA, oc, rfl, -⟩ := id h4
  exact ⟨cA, cc, kA, kc, rA, rc, oA, oc, rfl, h1, h2, h3, h4⟩
end
/-- numbers of 64 bits -/
def W64 (x : Int) : Prop := -9223372036854775808 ≤ x ∧ x ≤ 9223372036854775807
theorem W64.wf {x : Int} (h : W64 x) : (Lit.int .i64 x).wf = true := by
  obtain ⟨h1, h2⟩ := h
  simp [Lit.wf, IntKind.min, IntKind.max, IntKind.signed, IntKind.bits]; omega
/-- a beacon is not longer than memory, its numbers are of 64 bits -/
structure SmallB (b : BeaD) : Prop where
  cl : b.clubs.length ≤ 1000
  co : b.coms.length ≤ 1000
  re : b.revs.length ≤ 1000
  op : b.opns.length ≤ 1000
  clW : ∀ i, i < b.clubs.length → W64 (nthI b.clubs i)
  coW : ∀ i, i < b.coms.length → W64 (comN b.coms i).club
  chW : ∀ i, i < b.coms.length → U64s (comN b.coms i).checks ∧ (comN b.coms i).checks.length ≤ 140737488355328
  reW : ∀ i, i < b.revs.length → W64 (revN b.revs i).club ∧ (revN b.revs i).num < 18446744073709551616
  opW : ∀ i, i < b.opns.length → W64 (opnN b.opns i).club ∧ W64 (opnN b.opns i).frm ∧ (opnN b.opns i).sh.1 < 18446744073709551616 ∧ (opnN b.opns i).sh.2 < 18446744073709551616
  rg : b.rng < 18446744073709551616
  th : W64 b.thr
def ikv (x : Int) : Value := .int .i64 x
theorem ikv_inj (x y : Int) (h : ikv x = ikv y) : x = y := by unfold ikv at h; injection h
/-- the map of positions, the map of commitments -/
def placeV (cl : List Int) (k : Nat) (c : Int) : Option Value := (placeTo cl k c).map fun (i : Nat) => Value.int .i64 (i : Int)
def comV (vs : Nat → Value) (l : List ComD) : Nat → Int → Option Value
  | 0, _ => none
  | k + 1, c => if c = (comN l k).club then some (.agg #[.int .i64 (comN l k).club, vs k]) else comV vs l k c
theorem placeV_succ (cl : List Int) (k : Nat) : updM (placeV cl k) (nthI cl k) (.int .i64 (k : Int)) = placeV cl (k + 1) := by
  funext c
  unfold updM placeV
  show _ = (if c = nthI cl k then some k else placeTo cl k c).map _
  by_cases h : c = nthI cl k
  · rw [if_pos h, if_pos h]; rfl
  · rw [if_neg h, if_neg h]
theorem comV_succ (vs : Nat → Value) (l : List ComD) (k : Nat) : updM (comV vs l k) (comN l k).club (.agg #[.int .i64 (comN l k).club, vs k]) = comV vs l (k + 1) := rfl
theorem comV_has (vs : Nat → Value) (l : List ComD) (c : Int) : ∀ k, (comV vs l k c).isSome = (List.range k).any fun i => decide (c = (comN l i).club)
  | 0 => rfl
  | k + 1 => by
    rw [List.range_succ, List.any_append]
    show (if c = (comN l k).club then some _ else comV vs l k c).isSome = _
    by_cases h : c = (comN l k).club
    · rw [if_pos h]; simp [h]
    · rw [if_neg h, comV_has vs l c k]; simp [h]
theorem comV_com (vs : Nat → Value) (l : List ComD) (c : Int) : ∀ k, (comV vs l k c = none ∧ comTo l k c = none) ∨ ∃ i, i < k ∧ comTo l k c = some (comN l i) ∧ comV vs l k c = some (.agg #[.int .i64 (comN l i).club, vs i])
  | 0 => .inl ⟨rfl, rfl⟩
  | k + 1 => by
    show ((if c = (comN l k).club then some _ else comV vs l k c) = none ∧ (if c = (comN l k).club then some _ else comTo l k c) = none) ∨ ∃ i, i < k + 1 ∧ (if c = (comN l k).club then some _ else comTo l k c) = some (comN l i) ∧ (if c = (comN l k).club then some _ else comV vs l k c) = _
    by_cases h : c = (comN l k).club
    · rw [if_pos h, if_pos h]; exact .inr ⟨k, by omega, rfl, rfl⟩
    · rw [if_neg h, if_neg h]
      rcases comV_com vs l c k with h1 | ⟨i, h1, h2, h3⟩
      · exact .inl h1
      · exact .inr ⟨i, by omega, h2, h3⟩
/-- what is found in a beacon: the maps in memory -/
structure BoardM (w : World) (M : Nat → Prop) (b : BeaD) (bp bc : Nat) : Prop where
  place : ∃ n cnt, MapV ikv Try.prog 3 w bp n cnt (placeV b.clubs b.clubs.length)
  coms : ∃ n cnt vs, MapV ikv Try.prog 3 w bc n cnt (comV vs b.coms b.coms.length) ∧ ∀ i, i < b.coms.length → IsU64 w M (vs i) (comN b.coms i).checks
theorem BoardM.below {w w' : World} {M : Nat → Prop} {b : BeaD} {bp bc : Nat} (h : BoardM w M b bp bc) (hb : Below w.heap.size w w') : BoardM w' M b bp bc := by
  obtain ⟨n, cnt, h1⟩ := h.place
  obtain ⟨n2, cnt2, vs, h2, h3⟩ := h.coms
  exact ⟨⟨n, cnt, h1.below hb h1.lt⟩, ⟨n2, cnt2, vs, h2.below hb h2.lt, fun i hi => IsSl.below (h3 i hi) hb⟩⟩
/-- the value of a board -/
def IsBoard (w : World) (M : Nat → Prop) (v : Value) (b : BeaD) : Prop :=
  ∃ cv kv rv ov bp bc, v = .agg #[cv, .int .i64 b.thr, .int .u64 (b.rng : Int), kv, rv, ov, .map (some bp), .map (some bc), .bool (doneB b)] ∧ IsInts w M cv b.clubs ∧ IsComs w M kv b.coms ∧ IsRevs w M rv b.revs ∧ IsOpns w M ov b.opns ∧ BoardM w M b bp bc
theorem IsBoard.below {w w' : World} {M : Nat → Prop} {v : Value} {b : BeaD} (h : IsBoard w M v b) (hb : Below w.heap.size w w') : IsBoard w' M v b := by
  obtain ⟨cv, kv, rv, ov, bp, bc, e, h1, h2, h3, h4, h5⟩ := h
  exact ⟨cv, kv, rv, ov, bp, bc, e, IsSl.below h1 hb, h2.below hb, IsSl.below h3 hb, IsSl.below h4 hb, h5.below hb⟩
theorem IsBoard.parts {w : World} {M : Nat → Prop} {v : Value} {b : BeaD} (h : IsBoard w M v b) : ∃ cA cc kA kc rA rc oA oc bp bc, v = .agg #[.slice cA b.clubs.length cc, .int .i64 b.thr, .int .u64 (b.rng : Int), .slice kA b.coms.length kc, .slice rA b.revs.length rc, .slice oA b.opns.length oc, .map (some bp), .map (some bc), .bool (doneB b)] ∧
    IsInts w M (.slice cA b.clubs.length cc) b.clubs ∧ IsComs w M (.slice kA b.coms.length kc) b.coms ∧ IsRevs w M (.slice rA b.revs.length rc) b.revs ∧ IsOpns w M (.slice oA b.opns.length oc) b.opns ∧ BoardM w M b bp bc := by
  obtain ⟨cv, kv, rv, ov, bp, bc, rfl, h1, h2, h3, h4, h5⟩ := h
  obtain ⟨cA, cc, rfl, -⟩ := id h1
  obtain ⟨kA, kc, rfl, -⟩ := h2.len
  obtain ⟨rA, rc, rfl, -⟩ := id h3
  obtain ⟨oA, oc, rfl, -⟩ := id h4
  exact ⟨cA, cc, kA, kc, rA, rc, oA, oc, bp, bc, rfl, h1, h2, h3, h4, h5⟩
end Go.Proofs.Ytgaanndidcdbpaa
/- slices.IndexFunc and ContainsFunc at commitments, reveals and opened shares. -/
namespace Go.Proofs.Ytgaanndidcdbpaa
open Go.RowKit Go.Shelf

def Pred4 (P : Program) (w : World) (g : FuncId) (cap : Array Value) (n : Nat) (f : Nat → Nat → Value) (p : Nat → Bool) : Prop :=
  ∀ i, i < n → ∀ wr, Below w.heap.size w wr → Calls P g (#[.agg #[f i 0, f i 1, f i 2, f i 3]] ++ cap) wr fun e w' => e = .returned (.bool (p i)) ∧ Below wr.heap.size wr w'
theorem Cells.at4 {w wr : World} {M : Nat → Prop} {A : Option Addr} {n k : Nat} {f : Nat → Nat → Value} (h : Cells w M 4 A n f) (hb : Below w.heap.size w wr) (hk : k < n) :
    ∃ b off, A = some ⟨b, off, none⟩ ∧ M b ∧ b < w.heap.size ∧ wr.cell? ⟨b, off + k * 4, none⟩ = some (f k 0) ∧ wr.cell? ⟨b, off + k * 4 + 1, none⟩ = some (f k 1) ∧ wr.cell? ⟨b, off + k * 4 + 1 + 1, none⟩ = some (f k 2) ∧ wr.cell? ⟨b, off + k * 4 + 1 + 1 + 1, none⟩ = some (f k 3) := by
  obtain ⟨b, off, e, hM, hc⟩ := h (by omega)
  have h0 := hc k 0 hk (by omega)
  have h1 := hc k 1 hk (by omega)
  have h2 := hc k 2 hk (by omega)
  have h3 := hc k 3 hk (by omega)
  have hl : b < w.heap.size := lt_of_cell h0
  refine ⟨b, off, e, hM, hl, ?_, ?_, ?_, ?_⟩
  · exact (hb.cell (p := ⟨b, off + k * 4, none⟩) hl).trans h0
  · exact (hb.cell (p := ⟨b, off + k * 4 + 1, none⟩) hl).trans h1
  · exact (hb.cell (p := ⟨b, off + k * 4 + 1 + 1, none⟩) hl).trans h2
  · exact (hb.cell (p := ⟨b, off + k * 4 + 1 + 1 + 1, none⟩) hl).trans h3
set_option maxHeartbeats 400000 in
theorem indexFuncC_any (w : World) (M : Nat → Prop) (A : Option Addr) (n c : Nat) (f : Nat → Nat → Value) (hn : n ≤ 140737488355328) (hc : Cells w M 2 A n f) (g : FuncId) (cap : Array Value) (p : Nat → Bool) (hg : Enters Try.prog g) (hp : Pred2 Try.prog w g cap n f p) :
    Calls Try.prog 99 #[.slice A n c, .func (.func g) #[] cap] w fun e w' => e = .returned (.int .i64 (idxF p n)) ∧ Below w.heap.size w w' := by
  go_enter Try.func99, Try.ntmps99
  go_wp2
  go_loopw [8] (fun i wr => ∃ k : Nat, k ≤ n ∧ i = .int .i64 k ∧ noneTo p k ∧ Below w.heap.size w wr) (fun i _ => n - (intOf i).toNat)
  case atStart => exact ⟨0, Nat.zero_le _, rfl, fun j hj => absurd hj (by omega), Below.refl _ _⟩
  case round =>
    obtain ⟨k, hk, rfl, hno, hbel⟩ := hrel
    by_cases hlt : k < n
    · obtain ⟨b, off, rfl, _, hbl, hck, hck1⟩ := hc.at2 hbel hlt
      have hg' := fun args => hg args wr
      have HP := hp k hlt wr hbel
      have HP' := Lib.hid HP
      clear HP hg
      go_wp2_with fail
      refine HP'.out.mono ?_
      rintro e w1 ⟨rfl, hb1⟩
      by_cases hpk : p k = true
      · rw [hpk]
        go_wp2_with fail
        go_ret
        exact ⟨ret_int (idxF_some hlt hpk hno).symm, hbel.trans (hb1.mono hbel.size)⟩
      · have hpf : p k = false := by simpa using hpk
        rw [hpf]
        have HN := Lib.hid (noneTo_succ hno hpf)
        clear hpf hpk
        go_wp2_with fail
        go_roundw
        case rel => exact ⟨k + 1, by omega, by go_num, HN.out, hbel.trans (hb1.mono hbel.size)⟩
        case measure => simp [intOf]; omega
    · go_wp2
      go_ret
      obtain rfl : k = n := by omega
      exact ⟨ret_int (idxF_none hno).symm, hbel⟩

set_option maxHeartbeats 400000 in
theorem containsFuncC_any (w : World) (M : Nat → Prop) (A : Option Addr) (n c : Nat) (f : Nat → Nat → Value) (hn : n ≤ 140737488355328) (hc : Cells w M 2 A n f) (g : FuncId) (cap : Array Value) (p : Nat → Bool) (hg : Enters Try.prog g) (hp : Pred2 Try.prog w g cap n f p) :
    Calls Try.prog 70 #[.slice A n c, .func (.func g) #[] cap] w fun e w' => e = .returned (.bool ((List.range n).any p)) ∧ Below w.heap.size w w' := by
  have H := Lib.hid (indexFuncC_any w M A n c f hn hc g cap p hg hp)
  clear hg hp
  go_enter Try.func70, Try.ntmps70
  go_wp2_with fail
  refine H.out.mono ?_
  rintro e w1 ⟨rfl, hb1⟩
  go_wp2_with fail
  go_ret
  exact ⟨ret_bool (idxF_any p n), hb1⟩
set_option maxHeartbeats 400000 in
theorem indexFuncR_any (w : World) (M : Nat → Prop) (A : Option Addr) (n c : Nat) (f : Nat → Nat → Value) (hn : n ≤ 140737488355328) (hc : Cells w M 2 A n f) (g : FuncId) (cap : Array Value) (p : Nat → Bool) (hg : Enters Try.prog g) (hp : Pred2 Try.prog w g cap n f p) :
    Calls Try.prog 53 #[.slice A n c, .func (.func g) #[] cap] w fun e w' => e = .returned (.int .i64 (idxF p n)) ∧ Below w.heap.size w w' := by
  go_enter Try.func53, Try.ntmps53
  go_wp2
  go_loopw [8] (fun i wr => ∃ k : Nat, k ≤ n ∧ i = .int .i64 k ∧ noneTo p k ∧ Below w.heap.size w wr) (fun i _ => n - (intOf i).toNat)
  case atStart => exact ⟨0, Nat.zero_le _, rfl, fun j hj => absurd hj (by omega), Below.refl _ _⟩
  case round =>
    obtain ⟨k, hk, rfl, hno, hbel⟩ := hrel
    by_cases hlt : k < n
    · obtain ⟨b, off, rfl, _, hbl, hck, hck1⟩ := hc.at2 hbel hlt
      have hg' := fun args => hg args wr
      have HP := hp k hlt wr hbel
      have HP' := Lib.hid HP
      clear HP hg
      go_wp2_with fail
      refine HP'.out.mono ?_
      rintro e w1 ⟨rfl, hb1⟩
      by_cases hpk : p k = true
      · rw [hpk]
        go_wp2_with fail
        go_ret
        exact ⟨ret_int (idxF_some hlt hpk hno).symm, hbel.trans (hb1.mono hbel.size)⟩
      · have hpf : p k = false := by simpa using hpk
        rw [hpf]
        have HN := Lib.hid (noneTo_succ hno hpf)
        clear hpf hpk
        go_wp2_with fail
        go_roundw
        case rel => exact ⟨k + 1, by omega, by go_num, HN.out, hbel.trans (hb1.mono hbel.size)⟩
        case measure => simp [intOf]; omega
    · go_wp2
      go_ret
      obtain rfl : k = n := by omega
      exact ⟨ret_int (idxF_none hno).symm, hbel⟩

set_option maxHeartbeats 400000 in
theorem containsFuncR_any (w : World) (M : Nat → Prop) (A : Option Addr) (n c : Nat) (f : Nat → Nat → Value) (hn : n ≤ 140737488355328) (hc : Cells w M 2 A n f) (g : FuncId) (cap : Array Value) (p : Nat → Bool) (hg : Enters Try.prog g) (hp : Pred2 Try.prog w g cap n f p) :
    Calls Try.prog 32 #[.slice A n c, .func (.func g) #[] cap] w fun e w' => e = .returned (.bool ((List.range n).any p)) ∧ Below w.heap.size w w' := by
  have H := Lib.hid (indexFuncR_any w M A n c f hn hc g cap p hg hp)
  clear hg hp
  go_enter Try.func32, Try.ntmps32
  go_wp2_with fail
  refine H.out.mono ?_
  rintro e w1 ⟨rfl, hb1⟩
  go_wp2_with fail
  go_ret
  exact ⟨ret_bool (idxF_any p n), hb1⟩
set_option maxHeartbeats 400000 in
theorem indexFuncO_any (w : World) (M : Nat → Prop) (A : Option Addr) (n c : Nat) (f : Nat → Nat → Value) (hn : n ≤ 140737488355328) (hc : Cells w M 4 A n f) (g : FuncId) (cap : Array Value) (p : Nat → Bool) (hg : Enters Try.prog g) (hp : Pred4 Try.prog w g cap n f p) :
    Calls Try.prog 63 #[.slice A n c, .func (.func g) #[] cap] w fun e w' => e = .returned (.int .i64 (idxF p n)) ∧ Below w.heap.size w w' := by
  go_enter Try.func63, Try.ntmps63
  go_wp2
  go_loopw [8] (fun i wr => ∃ k : Nat, k ≤ n ∧ i = .int .i64 k ∧ noneTo p k ∧ Below w.heap.size w wr) (fun i _ => n - (intOf i).toNat)
  case atStart => exact ⟨0, Nat.zero_le _, rfl, fun j hj => absurd hj (by omega), Below.refl _ _⟩
  case round =>
    obtain ⟨k, hk, rfl, hno, hbel⟩ := hrel
    by_cases hlt : k < n
    · obtain ⟨b, off, rfl, _, hbl, hck, hck1, hck2, hck3⟩ := Cells.at4 hc hbel hlt
      have hg' := fun args => hg args wr
      have HP := hp k hlt wr hbel
      have HP' := Lib.hid HP
      clear HP hg
      go_wp2_with fail
      refine HP'.out.mono ?_
      rintro e w1 ⟨rfl, hb1⟩
      by_cases hpk : p k = true
      · rw [hpk]
        go_wp2_with fail
        go_ret
        exact ⟨ret_int (idxF_some hlt hpk hno).symm, hbel.trans (hb1.mono hbel.size)⟩
      · have hpf : p k = false := by simpa using hpk
        rw [hpf]
        have HN := Lib.hid (noneTo_succ hno hpf)
        clear hpf hpk
        go_wp2_with fail
        go_roundw
        case rel => exact ⟨k + 1, by omega, by go_num, HN.out, hbel.trans (hb1.mono hbel.size)⟩
        case measure => simp [intOf]; omega
    · go_wp2
      go_ret
      obtain rfl : k = n := by omega
      exact ⟨ret_int (idxF_none hno).symm, hbel⟩

set_option maxHeartbeats 400000 in
theorem containsFuncO_any (w : World) (M : Nat → Prop) (A : Option Addr) (n c : Nat) (f : Nat → Nat → Value) (hn : n ≤ 140737488355328) (hc : Cells w M 4 A n f) (g : FuncId) (cap : Array Value) (p : Nat → Bool) (hg : Enters Try.prog g) (hp : Pred4 Try.prog w g cap n f p) :
    Calls Try.prog 41 #[.slice A n c, .func (.func g) #[] cap] w fun e w' => e = .returned (.bool ((List.range n).any p)) ∧ Below w.heap.size w w' := by
  have H := Lib.hid (indexFuncO_any w M A n c f hn hc g cap p hg hp)
  clear hg hp
  go_enter Try.func41, Try.ntmps41
  go_wp2_with fail
  refine H.out.mono ?_
  rintro e w1 ⟨rfl, hb1⟩
  go_wp2_with fail
  go_ret
  exact ⟨ret_bool (idxF_any p n), hb1⟩
end Go.Proofs.Ytgaanndidcdbpaa
/- slices.Clone of ints. -/
namespace Go.Proofs.Ytgaanndidcdbpaa
open Go.RowKit Go.Shelf
theorem Try.infoI64 : (Try.prog.info? 3).map (fun i => (i.zero, i.size, i.bytes)) = some (some (.int .i64 0), 1, 8) := by kernel_rfl
theorem own_sl {w : World} {base e sz n : Nat} {v : Value} {xs : List Value} (h : w.ownsRow base e sz v n xs) : ∃ A c, v = .slice A n c := by
  obtain ⟨-, h2⟩ := h
  rcases h2 with ⟨rfl, rfl⟩ | ⟨b, cap, cur, rfl, -⟩
  · exact ⟨none, 0, rfl⟩
  · exact ⟨_, _, rfl⟩
theorem own_lt {w : World} {base e sz n : Nat} {v : Value} {xs : List Value} (h : w.ownsRow base e sz v n xs) : ∀ g, v.ownBlock = some g → base ≤ g ∧ g < w.heap.size := by
  intro g hg
  rcases h.2 with ⟨rfl, _⟩ | ⟨b, cap, cur, rfl, hb, hh, _⟩
  · simp [Value.ownBlock] at hg
  · simp [Value.ownBlock] at hg; subst hg; exact ⟨hb, lt_heap hh⟩

/-- append of a slice of ints onto an own row of ints -/
theorem wpList_ints {ops : Array Oper} {rest : List Oper} {o : Oper} {a : Act} {w : World} {Q : Exit → Act → World → Prop} (hg : o.guard = none) (s x : Operand) (hop : o.op = .call { callee := .builtin .append, args := #[s, x], argTypes := #[22, 22] })
    (base : Nat) (l m : List Int) {M : Nat → Prop} {v : Value} {A : Option Addr} {n c : Nat} (hs : a.eval s = v) (hown : w.ownsRow base 3 1 v l.length (l.map i64v)) (hx : a.eval x = .slice A n c) (hm : IsInts w M (.slice A n c) m) (hl : l.length + m.length < 1000000) (hbase : base ≤ w.heap.size)
    (h : ∀ A d w', Hid (w'.ownsRow base 3 1 (.slice A (l ++ m).length d) (l ++ m).length ((l ++ m).map i64v) ∧ Below base w w' ∧ ∀ k, k < w.heap.size → v.ownBlock ≠ some k → w'.heap[k]? = w.heap[k]?) → wpList Try.prog ops Q rest (a.put o.dst (.slice A (l ++ m).length d)) w') : wpList Try.prog ops Q (o :: rest) a w := by
  obtain ⟨i, hi, hz, hsz, hb⟩ := info_parts Try.infoI64
  have hm' := hm
  obtain ⟨A', c', e, -, -, -⟩ := hm
  cases e
  refine wpList_append_cells w hg s x 22 hop base 3 i _ 1 8 Try.underlying22 hi hz hsz hb rfl (by decide) v l.length (l.map i64v) hs hown A m.length c (m.map i64v) hx (by simp) (fun h0 => ?_) (fun u hu => by obtain ⟨y, -, rfl⟩ := List.mem_map.1 hu; rfl) (by unfold maxLen; omega) (by omega) hbase fun v' w' h1 h2 h3 => ?_
  · obtain ⟨b, off, rfl, -, -⟩ := hm'.at_ (Below.refl _ _) h0
    refine ⟨_, rfl, fun j u hj => ?_⟩
    have hjl : j < m.length := by have := (List.getElem?_eq_some_iff.1 hj).1; simpa using this
    obtain ⟨b2, off2, e2, -, hc⟩ := hm'.at_ (Below.refl _ _) hjl
    cases e2
    rw [addr_add, hc, nthI_get hjl]
    simpa [hjl, i64v] using hj
  · obtain ⟨A, d, rfl⟩ := own_sl h1
    rw [← List.length_append] at h1
    have h4 : Below base w w' := (Below.refl base w).grown h2 hbase fun k e => (own_lt hown k e).1
    have h5 : ∀ k, k < w.heap.size → v.ownBlock ≠ some k → w'.heap[k]? = w.heap[k]? := fun k hk hne => h2.block k hk fun e => hne e.symm
    rw [← List.map_append] at h1
    have h6 := h A d w'
    rw [List.length_append] at h1 h6
    exact h6 (Lib.hid ⟨h1, h4, h5⟩)
def CloneW (w : World) (l : List Int) (e : Ending) (w' : World) : Prop := ∃ A c, e = .returned (.slice A l.length c) ∧ w'.ownsRow w.heap.size 3 1 (.slice A l.length c) l.length (l.map i64v) ∧ Below w.heap.size w w'
set_option maxHeartbeats 1000000 in
theorem clone_any (w : World) (M : Nat → Prop) (v : Value) (l : List Int) (h : IsInts w M v l) (hl : l.length ≤ 100000) : Calls Try.prog 51 #[v] w (CloneW w l) := by
  have HI := Lib.hid h
  have q22 : ∀ (w : World) (a : Option Addr) (n c n' c' : Nat), (binOp .eql 22 (.slice a n c) (.slice none n' c')).run Try.prog w = .ok (.bool a.isNone) w := fun w a n c n' c' => Go.Lib.run_eql_slice_nil w _ _ a n c n' c' Try.underlying22
  obtain ⟨A, c, rfl, -, -, hc⟩ := h
  cases A with
  | none =>
    have h0 : l = [] := by
      rcases Nat.eq_zero_or_pos l.length with e | e
      · exact List.eq_nil_of_length_eq_zero e
      · obtain ⟨b, off, e2, -⟩ := hc e
        cases e2
    subst h0
    clear hc
    go_enter Try.func51, Try.ntmps51
    go_wp2_with fail
    go_ret
    exact ⟨none, 0, rfl, own_nil _ _ _ _, Below.refl _ _⟩
  | some ad =>
    clear hc
    go_enter Try.func51, Try.ntmps51
    go_wp2_with (refine wpList_ints rfl (.tmp 5) (.tmp 6) rfl w.heap.size [] l (M := M) rfl (own_empty (by rw [heap_alloc_if, if_pos rfl]) (Nat.le_refl _)) rfl (HI.out.below ((Below.refl _ _).alloc (Nat.le_refl _) _)) (by simp; omega) (by simp) ?_; intro A9 d9 w9 H9)
    go_ret
    exact ⟨A9, d9, rfl, by have := H9.out.1; rwa [List.nil_append] at this, ((Below.refl _ _).alloc (Nat.le_refl _) _).trans H9.out.2.1⟩
end Go.Proofs.Ytgaanndidcdbpaa
