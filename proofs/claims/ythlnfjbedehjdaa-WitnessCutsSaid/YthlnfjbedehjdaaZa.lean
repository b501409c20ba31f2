import Derived.Test.YthlnfjbedehjdaaS1
import Derived.Shelf.Abstract
import Derived.Deep.DeepCutAuto
import Derived.Deep.CutBlock
import Derived.WalkMore
import Derived.Deep.LoopGhost
import Derived.Laws.EntriesVeiled
/- IndexFunc and ContainsFunc at edges and ints. -/
namespace Go.Proofs.Ythlnfjbedehjdaa
open Go.RowKit Go.Shelf

/-- the predicate g with what it has captured answers p at each element -/
def Pred2 (P : Program) (w : World) (g : FuncId) (cap : Array Value) (n : Nat) (f : Nat → Nat → Value) (p : Nat → Bool) : Prop :=
  ∀ i, i < n → ∀ wr, Below w.heap.size w wr → Calls P g (#[.agg #[f i 0, f i 1]] ++ cap) wr fun e w' => e = .returned (.bool (p i)) ∧ Below wr.heap.size wr w'
def Pred1 (P : Program) (w : World) (g : FuncId) (cap : Array Value) (n : Nat) (f : Nat → Nat → Value) (p : Nat → Bool) : Prop :=
  ∀ i, i < n → ∀ wr, Below w.heap.size w wr → Calls P g (#[f i 0] ++ cap) wr fun e w' => e = .returned (.bool (p i)) ∧ Below wr.heap.size wr w'

set_option maxHeartbeats 400000 in
theorem indexFunc2_any (w : World) (M : Nat → Prop) (A : Option Addr) (n c : Nat) (f : Nat → Nat → Value) (hn : n ≤ 140737488355328) (hc : Cells w M 2 A n f) (g : FuncId) (cap : Array Value) (p : Nat → Bool) (hg : Enters Try.prog g) (hp : Pred2 Try.prog w g cap n f p) :
    Calls Try.prog 78 #[.slice A n c, .func (.func g) #[] cap] w fun e w' => e = .returned (.int .i64 (idxF p n)) ∧ Below w.heap.size w w' := by
  go_enter Try.func78, Try.ntmps78
  go_wp2
  go_loopw [8] (fun i wr => ∃ k : Nat, k ≤ n ∧ i = .int .i64 k ∧ noneTo p k ∧ Below w.heap.size w wr) (fun i _ => n - (intOf i).toNat)
  case atStart => exact ⟨0, Nat.zero_le _, rfl, fun j hj => absurd hj (by omega), Below.refl _ _⟩
  case round =>
    obtain ⟨k, hk, rfl, hno, hbel⟩ := hrel
    by_cases hlt : k < n
    · obtain ⟨b, off, rfl, _, hbl, hck, hck1⟩ := hc.at2 hbel hlt
      have hg' := fun args => hg args wr
      have HP := hp k hlt wr hbel
      have HP' := Lib.hid HP
      clear HP hg
      go_wp2_with fail
      refine HP'.out.mono ?_
      rintro e w1 ⟨rfl, hb1⟩
      by_cases hpk : p k = true
      · rw [hpk]
        go_wp2_with fail
        go_ret
        exact ⟨ret_int (idxF_some hlt hpk hno).symm, hbel.trans (hb1.mono hbel.size)⟩
      · have hpf : p k = false := by simpa using hpk
        rw [hpf]
        have HN := Lib.hid (noneTo_succ hno hpf)
        clear hpf hpk
        go_wp2_with fail
        go_roundw
        case rel => exact ⟨k + 1, by omega, by go_num, HN.out, hbel.trans (hb1.mono hbel.size)⟩
        case measure => simp [intOf]; omega
    · go_wp2
      go_ret
      obtain rfl : k = n := by omega
      exact ⟨ret_int (idxF_none hno).symm, hbel⟩

set_option maxHeartbeats 400000 in
theorem containsFunc2_any (w : World) (M : Nat → Prop) (A : Option Addr) (n c : Nat) (f : Nat → Nat → Value) (hn : n ≤ 140737488355328) (hc : Cells w M 2 A n f) (g : FuncId) (cap : Array Value) (p : Nat → Bool) (hg : Enters Try.prog g) (hp : Pred2 Try.prog w g cap n f p) :
    Calls Try.prog 48 #[.slice A n c, .func (.func g) #[] cap] w fun e w' => e = .returned (.bool ((List.range n).any p)) ∧ Below w.heap.size w w' := by
  have H := Lib.hid (indexFunc2_any w M A n c f hn hc g cap p hg hp)
  clear hg hp
  go_enter Try.func48, Try.ntmps48
  go_wp2_with fail
  refine H.out.mono ?_
  rintro e w1 ⟨rfl, hb1⟩
  go_wp2_with fail
  go_ret
  exact ⟨ret_bool (idxF_any p n), hb1⟩
set_option maxHeartbeats 400000 in
theorem indexFunc1_any (w : World) (M : Nat → Prop) (A : Option Addr) (n c : Nat) (f : Nat → Nat → Value) (hn : n ≤ 140737488355328) (hc : Cells w M 1 A n f) (hsl : ∀ i, i < n → ∃ x : Int, f i 0 = .int .i64 x) (g : FuncId) (cap : Array Value) (p : Nat → Bool) (hg : Enters Try.prog g) (hp : Pred1 Try.prog w g cap n f p) :
    Calls Try.prog 77 #[.slice A n c, .func (.func g) #[] cap] w fun e w' => e = .returned (.int .i64 (idxF p n)) ∧ Below w.heap.size w w' := by
  go_enter Try.func77, Try.ntmps77
  go_wp2
  go_loopw [8] (fun i wr => ∃ k : Nat, k ≤ n ∧ i = .int .i64 k ∧ noneTo p k ∧ Below w.heap.size w wr) (fun i _ => n - (intOf i).toNat)
  case atStart => exact ⟨0, Nat.zero_le _, rfl, fun j hj => absurd hj (by omega), Below.refl _ _⟩
  case round =>
    obtain ⟨k, hk, rfl, hno, hbel⟩ := hrel
    by_cases hlt : k < n
    · obtain ⟨b, off, rfl, _, hbl, hck⟩ := hc.at1 hbel hlt
      have hg' := fun args => hg args wr
      have HP := hp k hlt wr hbel
      obtain ⟨x', hfk⟩ := hsl k hlt
      rw [hfk] at HP hck
      have HP' := Lib.hid HP
      clear HP hg hfk
      go_wp2_with fail
      refine HP'.out.mono ?_
      rintro e w1 ⟨rfl, hb1⟩
      by_cases hpk : p k = true
      · rw [hpk]
        go_wp2_with fail
        go_ret
        exact ⟨ret_int (idxF_some hlt hpk hno).symm, hbel.trans (hb1.mono hbel.size)⟩
      · have hpf : p k = false := by simpa using hpk
        rw [hpf]
        have HN := Lib.hid (noneTo_succ hno hpf)
        clear hpf hpk
        go_wp2_with fail
        go_roundw
        case rel => exact ⟨k + 1, by omega, by go_num, HN.out, hbel.trans (hb1.mono hbel.size)⟩
        case measure => simp [intOf]; omega
    · go_wp2
      go_ret
      obtain rfl : k = n := by omega
      exact ⟨ret_int (idxF_none hno).symm, hbel⟩
set_option maxHeartbeats 400000 in
theorem containsFunc1_any (w : World) (M : Nat → Prop) (A : Option Addr) (n c : Nat) (f : Nat → Nat → Value) (hn : n ≤ 140737488355328) (hc : Cells w M 1 A n f) (hsl : ∀ i, i < n → ∃ x : Int, f i 0 = .int .i64 x) (g : FuncId) (cap : Array Value) (p : Nat → Bool) (hg : Enters Try.prog g) (hp : Pred1 Try.prog w g cap n f p) :
    Calls Try.prog 44 #[.slice A n c, .func (.func g) #[] cap] w fun e w' => e = .returned (.bool ((List.range n).any p)) ∧ Below w.heap.size w w' := by
  have H := Lib.hid (indexFunc1_any w M A n c f hn hc hsl g cap p hg hp)
  clear hg hp hsl
  go_enter Try.func44, Try.ntmps44
  go_wp2_with fail
  refine H.out.mono ?_
  rintro e w1 ⟨rfl, hb1⟩
  go_wp2_with fail
  go_ret
  exact ⟨ret_bool (idxF_any p n), hb1⟩
end Go.Proofs.Ythlnfjbedehjdaa
/- Races in memory. -/
namespace Go.Proofs.Ythlnfjbedehjdaa
open Go.RowKit Go.Shelf

/-- a race in memory -/
def IsRace (w : World) (M : Nat → Prop) (v : Value) (q : RaceD) : Prop := ∃ cv pv ov, v = .agg #[.int .i64 q.win, .int .i64 q.draw, cv, pv, ov, .int .i64 q.club, .int .i64 q.place] ∧ IsInts w M cv q.clubs ∧ IsInts w M pv q.points ∧ IsEdges w M ov q.opn
section
variable {w w' : World} {M M' : Nat → Prop} {v : Value} {q : RaceD}
theorem IsRace.below (h : IsRace w M v q) (hb : Below w.heap.size w w') : IsRace w' M v q := by
  obtain ⟨cv, pv, ov, e, h1, h2, h3⟩ := h; exact ⟨cv, pv, ov, e, IsSl.below h1 hb, IsSl.below h2 hb, IsSl.below h3 hb⟩
theorem IsRace.mono (h : IsRace w M v q) (hM : ∀ b, b < w.heap.size → M b → M' b) : IsRace w M' v q := by
  obtain ⟨cv, pv, ov, e, h1, h2, h3⟩ := h; exact ⟨cv, pv, ov, e, IsSl.mono h1 hM (by omega), IsSl.mono h2 hM (by omega), IsSl.mono h3 hM (by omega)⟩
/-- the parts of a race -/
theorem IsRace.parts (h : IsRace w M v q) : ∃ cA cc pA pc oA oc, v = .agg #[.int .i64 q.win, .int .i64 q.draw, .slice cA q.clubs.length cc, .slice pA q.points.length pc, .slice oA q.opn.length oc, .int .i64 q.club, .int .i64 q.place] ∧
    IsInts w M (.slice cA q.clubs.length cc) q.clubs ∧ IsInts w M (.slice pA q.points.length pc) q.points ∧ IsEdges w M (.slice oA q.opn.length oc) q.opn := by
  obtain ⟨cv, pv, ov, rfl, h1, h2, h3⟩ := h
  obtain ⟨cA, cc, rfl, r1⟩ := id h1
  obtain ⟨pA, pc, rfl, r2⟩ := id h2
  obtain ⟨oA, oc, rfl, r3⟩ := id h3
  exact ⟨cA, cc, pA, pc, oA, oc, rfl, h1, h2, h3⟩
end
theorem Blk_set {w : World} {g j : Nat} {t : TypeId} {cs : Array Value} (h : w.heap[g]? = some (.cells cs t (0, 0))) (u : Value) : (w.setCell ⟨g, j, none⟩ u).heap[g]? = some (.cells (cs.setIfInBounds j u) t (0, 0)) := by
  simp [World.setCell, Array.getElem?_modify, h]
def RetE (z : Int) (w : World) (e : Ending) (w' : World) : Prop := e = .returned (.int .i64 z) ∧ Below w.heap.size w w'
end Go.Proofs.Ythlnfjbedehjdaa
/- The closures of witness.check. -/
namespace Go.Proofs.Ythlnfjbedehjdaa
open Go.RowKit Go.Shelf

theorem inR_any (w : World) (b : Nat) (n x : Int) (h : w.cell? ⟨b, 0, none⟩ = some (.int .i64 n)) :
    Calls Try.prog 47 #[.int .i64 x, .pointer (some ⟨b, 0, none⟩)] w fun e w' => e = .returned (.bool (decide (0 ≤ x) && decide (x < n))) ∧ w = w' := by
  go_enter Try.func47, Try.ntmps47
  by_cases h1 : 0 ≤ x
  · by_cases h2 : x < n
    · have d1 : decide (0 ≤ x) = true := decide_eq_true h1
      have d2 : decide (x < n) = true := decide_eq_true h2
      go_wp2_with fail
      go_ret
      exact ⟨by first | rfl | (rw [d1, d2]; rfl), rfl⟩
    · have d1 : decide (0 ≤ x) = true := decide_eq_true h1
      have d2 : decide (x < n) = false := decide_eq_false h2
      go_wp2_with fail
      go_ret
      exact ⟨by first | rfl | (rw [d1, d2]; rfl), rfl⟩
  · have d1 : decide (0 ≤ x) = false := decide_eq_false h1
    go_wp2_with fail
    go_ret
    exact ⟨by first | rfl | (rw [d1]; rfl), rfl⟩
theorem edge_any (w : World) (b4 b7 : Nat) (n : Nat) (e : Int × Int) (h4 : w.cell? ⟨b4, 0, none⟩ = some (.int .i64 (n : Int))) (h7 : w.cell? ⟨b7, 0, none⟩ = some (.func (.func 47) #[] #[.pointer (some ⟨b4, 0, none⟩)])) (hb4 : b4 < w.heap.size) (hb7 : b7 < w.heap.size) :
    Calls Try.prog 49 #[.agg #[.int .i64 e.1, .int .i64 e.2], .pointer (some ⟨b7, 0, none⟩)] w fun r w' => r = .returned (.bool (!edgeB n e)) ∧ Below w.heap.size w w' := by
  obtain ⟨x, y⟩ := e
  have CI := fun (W : World) (hB : Below w.heap.size w W) z => Lib.hid (inR_any W b4 n z ((hB.cell (p := ⟨b4, 0, none⟩) hb4).trans h4))
  have hE : edgeB n (x, y) = ((decide (0 ≤ x) && decide (x < (n : Int))) && ((decide (0 ≤ y) && decide (y < (n : Int))) && !(x == y))) := by
    unfold edgeB EdgeR
    rw [Bool.eq_iff_iff]
    simp only [decide_eq_true_eq, Bool.and_eq_true, Bool.not_eq_true', beq_eq_false_iff_ne]
    exact decide_eq_true_iff
  rw [hE]
  obtain ⟨p, hp⟩ : ∃ p, p = (decide (0 ≤ x) && decide (x < (n : Int))) := ⟨_, rfl⟩
  obtain ⟨q, hq⟩ : ∃ q, q = (decide (0 ≤ y) && decide (y < (n : Int))) := ⟨_, rfl⟩
  have C1 := fun W hB => (CI W hB x)
  have C2 := fun W hB => (CI W hB y)
  rw [← hp] at C1 ⊢
  rw [← hq] at C2 ⊢
  obtain ⟨r, hr⟩ : ∃ r, r = (x == y) := ⟨_, rfl⟩
  have HR := Lib.hid hr
  clear hE CI hp hq hr
  go_enter Try.func49, Try.ntmps49
  go_wp2_with fail
  refine nameW fun W1 hW1 => ?_
  have hb1 : Below w.heap.size w W1 := by rw [hW1.out]; exact (Below.refl _ _).alloc (Nat.le_refl _) _
  have hx1 : W1.heap[w.heap.size]? = some (.cells #[.int .i64 x, .int .i64 y] 53 (0, 0)) := by rw [hW1.out]; exact heap_alloc_new _ _
  have h7' := (hb1.cell (p := ⟨b7, 0, none⟩) hb7).trans h7
  have c0 := cell_of (j := 0) hx1 rfl
  have c1 := cell_of (j := 1) hx1 rfl
  have HB1 := Lib.hid hb1
  have hr1 : (x == y) = r := HR.out.symm
  clear hW1 hx1 hb1
  refine (C1 W1 HB1.out).out.mono ?_
  rintro e w' ⟨rfl, rfl⟩
  cases p
  · go_wp2_with fail
    go_ret
    exact ⟨rfl, HB1.out⟩
  go_wp2_with fail
  refine (C2 W1 HB1.out).out.mono ?_
  rintro e w' ⟨rfl, rfl⟩
  cases q
  · go_wp2_with fail
    go_ret
    exact ⟨rfl, HB1.out⟩
  cases r
  · go_wp2_with fail
    go_ret
    exact ⟨by rw [hr1]; rfl, HB1.out⟩
  · go_wp2_with fail
    go_ret
    exact ⟨by rw [hr1]; rfl, HB1.out⟩
end Go.Proofs.Ythlnfjbedehjdaa
/- witness.check. -/
namespace Go.Proofs.Ythlnfjbedehjdaa
open Go.RowKit Go.Shelf

theorem range_anyE (l : List (Int × Int)) (p : Int × Int → Bool) : (List.range l.length).any (fun i => p (l.getD i (0, 0))) = l.any p := by
  rw [Bool.eq_iff_iff, List.any_eq_true, List.any_eq_true]
  constructor
  · rintro ⟨i, hi, h⟩
    rw [List.mem_range] at hi
    rw [List.getD_eq_getElem?_getD, List.getElem?_eq_getElem hi, Option.getD_some] at h
    exact ⟨l[i], List.getElem_mem hi, h⟩
  · rintro ⟨x, hx, h⟩
    obtain ⟨i, hi, rfl⟩ := List.getElem_of_mem hx
    exact ⟨i, List.mem_range.2 hi, by rw [List.getD_eq_getElem?_getD, List.getElem?_eq_getElem hi, Option.getD_some]; exact h⟩
/-- what check returns: the race, and whether it is valid -/
def zeroRV : Value := .agg #[.int .i64 0, .int .i64 0, .slice none 0 0, .slice none 0 0, .slice none 0 0, .int .i64 0, .int .i64 0]
def RetChk (v : Value) (ok : Bool) (w : World) (e : Ending) (w' : World) : Prop := e = .returned (.tuple #[if ok then v else zeroRV, .bool ok]) ∧ Below w.heap.size w w'
set_option maxRecDepth 20000 in
set_option maxHeartbeats 4000000 in
theorem check_any (w : World) (M : Nat → Prop) (v : Value) (q : RaceD) (h : IsRace w M v q) : Calls Try.prog 30 #[v] w (RetChk v (validB q) w) := by
  obtain ⟨cA, cc, pA, pc, oA, oc, rfl, hc, hp, ho⟩ := h.parts
  have HC := Lib.hid hc
  have HP := Lib.hid hp
  have HO := Lib.hid ho
  clear hc hp ho h
  obtain ⟨n, hn⟩ : ∃ n, n = q.clubs.length := ⟨_, rfl⟩
  obtain ⟨np, hnp⟩ : ∃ np, np = q.points.length := ⟨_, rfl⟩
  obtain ⟨no, hno⟩ : ∃ no, no = q.opn.length := ⟨_, rfl⟩
  obtain ⟨win, hwin⟩ : ∃ x, x = q.win := ⟨_, rfl⟩
  obtain ⟨draw, hdraw⟩ : ∃ x, x = q.draw := ⟨_, rfl⟩
  obtain ⟨club, hclub⟩ : ∃ x, x = q.club := ⟨_, rfl⟩
  obtain ⟨place, hplace⟩ : ∃ x, x = q.place := ⟨_, rfl⟩
  rw [← hn, ← hnp, ← hno, ← hwin, ← hdraw, ← hclub, ← hplace]
  have HSZ := Lib.hid (show SizeR q ↔ (0 ≤ draw ∧ draw ≤ win ∧ win ≤ 999 ∧ 2 ≤ n ∧ n ≤ 24 ∧ np = n ∧ no ≤ 552 ∧ 0 ≤ club ∧ club < n ∧ 1 ≤ place ∧ place ≤ n) from by
    rw [hn, hnp, hno, hwin, hdraw, hclub, hplace]
    exact ⟨fun ⟨a, b, c, d, e, f, g, h, i, j, k⟩ => ⟨a, b, c, d, e, f, g, h, i, j, k⟩, fun ⟨a, b, c, d, e, f, g, h, i, j, k⟩ => ⟨a, b, c, d, e, f, g, h, i, j, k⟩⟩)
  have HN := Lib.hid hn
  have HNP := Lib.hid hnp
  have HNO := Lib.hid hno
  clear hn hnp hno hwin hdraw hclub hplace
  go_enter Try.func30, Try.ntmps30
  go_upto_region 2 with fail
  
  refine nameC fun W3 hW3 => ?_
  have hb3 : Below w.heap.size w W3 := by rw [hW3.out]; exact (((Below.refl _ _).alloc (Nat.le_refl _) _).alloc (by simp) _).alloc (by simp; omega) _
  have k0 : W3.heap[w.heap.size]? = some (.cells #[.int .i64 win, .int .i64 draw, .slice cA n cc, .slice pA np pc, .slice oA no oc, .int .i64 club, .int .i64 place] 25 (0, 0)) := by rw [hW3.out]; simp only [heap_alloc_if, World.size_alloc]; rw [if_neg (by omega), if_neg (by omega), if_pos trivial]
  have k1 : W3.heap[w.heap.size + 1]? = some (.cells #[.int .i64 0, .int .i64 0, .slice none 0 0, .slice none 0 0, .slice none 0 0, .int .i64 0, .int .i64 0] 55 (0, 0)) := by rw [hW3.out]; simp only [heap_alloc_if, World.size_alloc]; rw [if_neg (by omega), if_pos trivial]
  have k2 : W3.heap[w.heap.size + 1 + 1]? = some (.cells #[.int .i64 (n : Int)] 3 (0, 0)) := by rw [hW3.out]; simp only [heap_alloc_if, World.size_alloc]; rw [if_pos trivial]
  have hsz3 : W3.heap.size = w.heap.size + 3 := by rw [hW3.out]; simp
  have K0 := Lib.hid k0
  have K1 := Lib.hid k1
  have K2 := Lib.hid k2
  have HB3 := Lib.hid hb3
  have HZ3 := Lib.hid hsz3
  clear hW3 hb3 k0 k1 k2 hsz3
  have r0 := cell_of (j := 0) K0.out rfl
  have r1 := cell_of (j := 1) K0.out rfl
  have r2 := cell_of (j := 2) K0.out rfl
  have r3 := cell_of (j := 3) K0.out rfl
  have r4 := cell_of (j := 4) K0.out rfl
  have r5 := cell_of (j := 5) K0.out rfl
  have r6 := cell_of (j := 6) K0.out rfl
  have n0 := cell_of (j := 0) K2.out rfl
  go_cut [68] (fun c W => c = .bool (!decide (SizeR q)) ∧ W = W3)
  case first =>
    by_cases t0 : draw < 0
    · skip
      have d0_0 : decide (draw < 0) = true := by rw [decide_eq_true_eq]; omega
      have hs : decide (SizeR q) = false := by rw [decide_eq_false_iff_not, HSZ.out]; omega
      clear t0
      go_wp2_with fail
      go_meet
      case rel => exact ⟨by rw [hs]; rfl, rfl⟩
    have d0_0 : decide (draw < 0) = false := by rw [decide_eq_false_iff_not]; omega
    by_cases t1 : win < draw
    · skip
      have d1_0 : decide (win < draw) = true := by rw [decide_eq_true_eq]; omega
      have hs : decide (SizeR q) = false := by rw [decide_eq_false_iff_not, HSZ.out]; omega
      clear t0 t1
      go_wp2_with fail
      go_meet
      case rel => exact ⟨by rw [hs]; rfl, rfl⟩
    have d1_0 : decide (win < draw) = false := by rw [decide_eq_false_iff_not]; omega
    by_cases t2 : 999 < win
    · skip
      have d2_0 : decide (999 < win) = true := by rw [decide_eq_true_eq]; omega
      have hs : decide (SizeR q) = false := by rw [decide_eq_false_iff_not, HSZ.out]; omega
      clear t0 t1 t2
      go_wp2_with fail
      go_meet
      case rel => exact ⟨by rw [hs]; rfl, rfl⟩
    have d2_0 : decide (999 < win) = false := by rw [decide_eq_false_iff_not]; omega
    by_cases t3 : n < 2
    · skip
      have d3_0 : decide ((n : Int) < 2) = true := by rw [decide_eq_true_eq]; omega
      have d3_1 : decide (n < 2) = true := by rw [decide_eq_true_eq]; omega
      have hs : decide (SizeR q) = false := by rw [decide_eq_false_iff_not, HSZ.out]; omega
      clear t0 t1 t2 t3
      go_wp2_with fail
      go_meet
      case rel => exact ⟨by rw [hs]; rfl, rfl⟩
    have d3_0 : decide ((n : Int) < 2) = false := by rw [decide_eq_false_iff_not]; omega
    have d3_1 : decide (n < 2) = false := by rw [decide_eq_false_iff_not]; omega
    by_cases t4 : 24 < n
    · skip
      have d4_0 : decide (24 < (n : Int)) = true := by rw [decide_eq_true_eq]; omega
      have d4_1 : decide (24 < n) = true := by rw [decide_eq_true_eq]; omega
      have hs : decide (SizeR q) = false := by rw [decide_eq_false_iff_not, HSZ.out]; omega
      clear t0 t1 t2 t3 t4
      go_wp2_with fail
      go_meet
      case rel => exact ⟨by rw [hs]; rfl, rfl⟩
    have d4_0 : decide (24 < (n : Int)) = false := by rw [decide_eq_false_iff_not]; omega
    have d4_1 : decide (24 < n) = false := by rw [decide_eq_false_iff_not]; omega
    by_cases t5 : np ≠ n
    · skip
      have d5_0 : ((np : Int) != (n : Int)) = true := by rw [bne_iff_ne]; omega
      have hs : decide (SizeR q) = false := by rw [decide_eq_false_iff_not, HSZ.out]; omega
      clear t0 t1 t2 t3 t4 t5
      go_wp2_with fail
      go_meet
      case rel => exact ⟨by rw [hs]; rfl, rfl⟩
    have d5_0 : ((np : Int) != (n : Int)) = false := by rw [bne_eq_false_iff_eq]; omega
    by_cases t6 : 552 < no
    · skip
      have d6_0 : decide (552 < (no : Int)) = true := by rw [decide_eq_true_eq]; omega
      have d6_1 : decide (552 < no) = true := by rw [decide_eq_true_eq]; omega
      have hs : decide (SizeR q) = false := by rw [decide_eq_false_iff_not, HSZ.out]; omega
      clear t0 t1 t2 t3 t4 t5 t6
      go_wp2_with fail
      go_meet
      case rel => exact ⟨by rw [hs]; rfl, rfl⟩
    have d6_0 : decide (552 < (no : Int)) = false := by rw [decide_eq_false_iff_not]; omega
    have d6_1 : decide (552 < no) = false := by rw [decide_eq_false_iff_not]; omega
    by_cases t7 : club < 0
    · skip
      have d7_0 : decide (club < 0) = true := by rw [decide_eq_true_eq]; omega
      have hs : decide (SizeR q) = false := by rw [decide_eq_false_iff_not, HSZ.out]; omega
      clear t0 t1 t2 t3 t4 t5 t6 t7
      go_wp2_with fail
      go_meet
      case rel => exact ⟨by rw [hs]; rfl, rfl⟩
    have d7_0 : decide (club < 0) = false := by rw [decide_eq_false_iff_not]; omega
    by_cases t8 : (n : Int) ≤ club
    · skip
      have d8_0 : decide ((n : Int) ≤ club) = true := by rw [decide_eq_true_eq]; omega
      have hs : decide (SizeR q) = false := by rw [decide_eq_false_iff_not, HSZ.out]; omega
      clear t0 t1 t2 t3 t4 t5 t6 t7 t8
      go_wp2_with fail
      go_meet
      case rel => exact ⟨by rw [hs]; rfl, rfl⟩
    have d8_0 : decide ((n : Int) ≤ club) = false := by rw [decide_eq_false_iff_not]; omega
    by_cases t9 : place < 1
    · skip
      have d9_0 : decide (place < 1) = true := by rw [decide_eq_true_eq]; omega
      have hs : decide (SizeR q) = false := by rw [decide_eq_false_iff_not, HSZ.out]; omega
      clear t0 t1 t2 t3 t4 t5 t6 t7 t8 t9
      go_wp2_with fail
      go_meet
      case rel => exact ⟨by rw [hs]; rfl, rfl⟩
    have d9_0 : decide (place < 1) = false := by rw [decide_eq_false_iff_not]; omega
    by_cases t10 : (n : Int) < place
    · skip
      have d10_0 : decide ((n : Int) < place) = true := by rw [decide_eq_true_eq]; omega
      have hs : decide (SizeR q) = false := by rw [decide_eq_false_iff_not, HSZ.out]; omega
      clear t0 t1 t2 t3 t4 t5 t6 t7 t8 t9 t10
      go_wp2_with fail
      go_meet
      case rel => exact ⟨by rw [hs]; rfl, rfl⟩
    have d10_0 : decide ((n : Int) < place) = false := by rw [decide_eq_false_iff_not]; omega
    have hs : decide (SizeR q) = true := by rw [decide_eq_true_eq, HSZ.out]; omega
    clear t0 t1 t2 t3 t4 t5 t6 t7 t8 t9 t10
    go_wp2_with fail
    go_meet
    case rel => exact ⟨by rw [hs]; rfl, rfl⟩
  case rest =>
    obtain ⟨rfl, hwc⟩ := hcut
    subst hwc
    by_cases hsz : SizeR q
    case neg =>
      have hs : decide (SizeR q) = false := decide_eq_false hsz
      have hv : validB q = false := valid_size hsz
      have HV := Lib.hid hv
      rw [hs]
      clear hv hs hsz r0 r1 r2 r3 r4 r5 r6 n0
      have m0 := cell_of (j := 0) K1.out rfl
      have f0 : wc.frozen? ⟨w.heap.size + 1, 0, none⟩ = false := by simp [World.frozen?, K1.out]
      have m1 := cell_of (j := 1) K1.out rfl
      have f1 : wc.frozen? ⟨w.heap.size + 1, 1, none⟩ = false := by simp [World.frozen?, K1.out]
      have m2 := cell_of (j := 2) K1.out rfl
      have f2 : wc.frozen? ⟨w.heap.size + 1, 2, none⟩ = false := by simp [World.frozen?, K1.out]
      have m3 := cell_of (j := 3) K1.out rfl
      have f3 : wc.frozen? ⟨w.heap.size + 1, 3, none⟩ = false := by simp [World.frozen?, K1.out]
      have m4 := cell_of (j := 4) K1.out rfl
      have f4 : wc.frozen? ⟨w.heap.size + 1, 4, none⟩ = false := by simp [World.frozen?, K1.out]
      have m5 := cell_of (j := 5) K1.out rfl
      have f5 : wc.frozen? ⟨w.heap.size + 1, 5, none⟩ = false := by simp [World.frozen?, K1.out]
      have m6 := cell_of (j := 6) K1.out rfl
      have f6 : wc.frozen? ⟨w.heap.size + 1, 6, none⟩ = false := by simp [World.frozen?, K1.out]
      go_wp2_with fail
      refine bodyPost_ret (v := .tuple #[.agg #[.int .i64 0, .int .i64 0, .slice none 0 0, .slice none 0 0, .slice none 0 0, .int .i64 0, .int .i64 0], .bool false]) (by simp [results, Try.results30, go_sem, m0, m1, m2, m3, m4, m5, m6]) rfl ⟨by rw [HV.out]; rfl, ?_⟩
      exact (((((((HB3.out.setCell (by simp) _).setCell (by simp) _).setCell (by simp) _).setCell (by simp) _).setCell (by simp) _).setCell (by simp) _).setCell (by simp) _)
    have hs : decide (SizeR q) = true := decide_eq_true hsz
    rw [hs]
    have HS := Lib.hid hsz
    have hn24 : (2 : Int) ≤ (n : Int) ∧ (n : Int) ≤ 24 := by rw [HN.out]; have := hsz.n2; have := hsz.n24; omega
    have hpn : np = n := by rw [HNP.out, HN.out]; exact hsz.pts
    have HPN := Lib.hid hpn
    obtain ⟨hn2, hn3⟩ := hn24
    clear hs hsz hpn n0 r0 r1 r5 r6 r4
    go_wp2_with fail
    go_loop [73] (fun i => ∃ k : Nat, k ≤ n ∧ i = .int .i64 (k : Int) ∧ Hid (clubsTo q k)) (fun i => n - (intOf i).toNat)
    case atStart => exact ⟨0, Nat.zero_le _, rfl, Lib.hid clubsTo_zero⟩
    case round =>
      obtain ⟨k, hk, rfl, HT⟩ := hrel
      by_cases hlt : k < n
      · obtain ⟨cb, co, rfl, hcb, hck⟩ := HC.out.at_ HB3.out (show k < q.clubs.length by rw [← HN.out]; exact hlt)
        obtain ⟨pb, po, rfl, hpb, hpk⟩ := HP.out.at_ HB3.out (show k < q.points.length by rw [← HNP.out, HPN.out]; exact hlt)
        have hlt' : (k : Int) < (n : Int) := by omega
        have hlt2 : (k : Int) < (np : Int) := by rw [HPN.out]; omega
        have hk0 : (0 : Int) ≤ (k : Int) := by omega
        go_upto_region 7 with fail
        have HCR := Lib.hid (show ClubR q k ↔ (0 ≤ nthI q.clubs k ∧ nthI q.clubs k < 192 ∧ (0 < k → nthI q.clubs (k - 1) < nthI q.clubs k) ∧ -99999 ≤ nthI q.points k ∧ nthI q.points k ≤ 99999) from ⟨fun ⟨a, b, c, d, e⟩ => ⟨a, b, c, d, e⟩, fun ⟨a, b, c, d, e⟩ => ⟨a, b, c, d, e⟩⟩)
        have hy : 0 < k → wc.cell? ⟨cb, co + (k - 1), none⟩ = some (.int .i64 (nthI q.clubs (k - 1))) := fun h0 => by
          obtain ⟨cb', co', e, -, hck'⟩ := HC.out.at_ HB3.out (show k - 1 < q.clubs.length by rw [← HN.out]; omega)
          simp only [Option.some.injEq, Addr.mk.injEq, and_true] at e
          rw [e.1, e.2]; exact hck'
        have HY := Lib.hid hy
        obtain ⟨x, hx⟩ : ∃ x, x = nthI q.clubs k := ⟨_, rfl⟩
        obtain ⟨y, hy'⟩ : ∃ y, y = nthI q.clubs (k - 1) := ⟨_, rfl⟩
        obtain ⟨z, hz⟩ : ∃ z, z = nthI q.points k := ⟨_, rfl⟩
        rw [← hx] at hck HCR ⊢
        rw [← hy'] at HCR HY
        rw [← hz] at hpk HCR
        clear hy hx hy' hz
        go_cut [113] (fun c W => c = .bool (!decide (ClubR q k)) ∧ W = wc)
        case first =>
          by_cases hk1 : k = 0
          · skip
            have dk : decide ((0 : Int) < (k : Int)) = false := by rw [decide_eq_false_iff_not]; omega
            have dk2 : decide (0 < k) = false := by rw [decide_eq_false_iff_not]; omega
            by_cases t0 : x < 0
            · skip
              have hs : decide (ClubR q (k)) = false := by rw [decide_eq_false_iff_not, HCR.out]; omega
              have dt0 : decide (x < 0) = true := by rw [decide_eq_true_eq]; omega
              clear hk1 t0
              go_wp2_with fail
              go_meet
              case rel => exact ⟨by rw [hs]; rfl, rfl⟩
            have dt0 : decide (x < 0) = false := by rw [decide_eq_false_iff_not]; omega
            by_cases t1 : 192 ≤ x
            · skip
              have hs : decide (ClubR q (k)) = false := by rw [decide_eq_false_iff_not, HCR.out]; omega
              have dt1 : decide (192 ≤ x) = true := by rw [decide_eq_true_eq]; omega
              clear hk1 t0 t1
              go_wp2_with fail
              go_meet
              case rel => exact ⟨by rw [hs]; rfl, rfl⟩
            have dt1 : decide (192 ≤ x) = false := by rw [decide_eq_false_iff_not]; omega
            by_cases t4 : z < -99999
            · skip
              have hs : decide (ClubR q (k)) = false := by rw [decide_eq_false_iff_not, HCR.out]; omega
              have dt4 : decide (z < -99999) = true := by rw [decide_eq_true_eq]; omega
              clear hk1 t0 t1 t4
              go_wp2_with fail
              go_meet
              case rel => exact ⟨by rw [hs]; rfl, rfl⟩
            have dt4 : decide (z < -99999) = false := by rw [decide_eq_false_iff_not]; omega
            by_cases t5 : 99999 < z
            · skip
              have hs : decide (ClubR q (k)) = false := by rw [decide_eq_false_iff_not, HCR.out]; omega
              have dt5 : decide (99999 < z) = true := by rw [decide_eq_true_eq]; omega
              clear hk1 t0 t1 t4 t5
              go_wp2_with fail
              go_meet
              case rel => exact ⟨by rw [hs]; rfl, rfl⟩
            have dt5 : decide (99999 < z) = false := by rw [decide_eq_false_iff_not]; omega
            have hs : decide (ClubR q (k)) = true := by rw [decide_eq_true_eq, HCR.out]; omega
            clear hk1 t0 t1 t4 t5
            go_wp2_with fail
            go_meet
            case rel => exact ⟨by rw [hs]; rfl, rfl⟩
          obtain ⟨j, rfl⟩ : ∃ j, k = j + 1 := ⟨k - 1, by omega⟩
          have hyc : wc.cell? ⟨cb, co + j, none⟩ = some (.int .i64 y) := HY.out (by omega)
          have dk : decide ((0 : Int) < (j : Int) + 1) = true := by rw [decide_eq_true_eq]; omega
          have hj0 : (0 : Int) ≤ (j : Int) := by omega
          have hj1 : (j : Int) < (n : Int) := by omega
          have hj2 : (j : Int) < 24 := by omega
          by_cases t0 : x < 0
          · skip
            have hs : decide (ClubR q (j + 1)) = false := by rw [decide_eq_false_iff_not, HCR.out]; omega
            have dt0 : decide (x < 0) = true := by rw [decide_eq_true_eq]; omega
            clear hk1 t0
            go_wp2_with fail
            go_meet
            case rel => exact ⟨by rw [hs]; rfl, rfl⟩
          have dt0 : decide (x < 0) = false := by rw [decide_eq_false_iff_not]; omega
          by_cases t1 : 192 ≤ x
          · skip
            have hs : decide (ClubR q (j + 1)) = false := by rw [decide_eq_false_iff_not, HCR.out]; omega
            have dt1 : decide (192 ≤ x) = true := by rw [decide_eq_true_eq]; omega
            clear hk1 t0 t1
            go_wp2_with fail
            go_meet
            case rel => exact ⟨by rw [hs]; rfl, rfl⟩
          have dt1 : decide (192 ≤ x) = false := by rw [decide_eq_false_iff_not]; omega
          by_cases t3 : x ≤ y
          · skip
            have hs : decide (ClubR q (j + 1)) = false := by rw [decide_eq_false_iff_not, HCR.out]; omega
            have dt3 : decide (x ≤ y) = true := by rw [decide_eq_true_eq]; omega
            clear hk1 t0 t1 t3
            go_wp2_with fail
            go_meet
            case rel => exact ⟨by rw [hs]; rfl, rfl⟩
          have dt3 : decide (x ≤ y) = false := by rw [decide_eq_false_iff_not]; omega
          by_cases t4 : z < -99999
          · skip
            have hs : decide (ClubR q (j + 1)) = false := by rw [decide_eq_false_iff_not, HCR.out]; omega
            have dt4 : decide (z < -99999) = true := by rw [decide_eq_true_eq]; omega
            clear hk1 t0 t1 t3 t4
            go_wp2_with fail
            go_meet
            case rel => exact ⟨by rw [hs]; rfl, rfl⟩
          have dt4 : decide (z < -99999) = false := by rw [decide_eq_false_iff_not]; omega
          by_cases t5 : 99999 < z
          · skip
            have hs : decide (ClubR q (j + 1)) = false := by rw [decide_eq_false_iff_not, HCR.out]; omega
            have dt5 : decide (99999 < z) = true := by rw [decide_eq_true_eq]; omega
            clear hk1 t0 t1 t3 t4 t5
            go_wp2_with fail
            go_meet
            case rel => exact ⟨by rw [hs]; rfl, rfl⟩
          have dt5 : decide (99999 < z) = false := by rw [decide_eq_false_iff_not]; omega
          have hs : decide (ClubR q (j + 1)) = true := by rw [decide_eq_true_eq, HCR.out]; omega
          clear hk1 t0 t1 t3 t4 t5
          go_wp2_with fail
          go_meet
          case rel => exact ⟨by rw [hs]; rfl, rfl⟩
        case rest =>
          obtain ⟨rfl, hwc⟩ := hcut
          subst hwc
          by_cases hcl : ClubR q k
          case neg =>
            have hs : decide (ClubR q k) = false := decide_eq_false hcl
            have HV := Lib.hid (valid_club (show k < q.clubs.length by rw [← HN.out]; exact hlt) hcl)
            rw [hs]
            clear hs hcl r2 r3 HCR HY hck hpk
            have m0 := cell_of (j := 0) K1.out rfl
            have f0 : wc.frozen? ⟨w.heap.size + 1, 0, none⟩ = false := by simp [World.frozen?, K1.out]
            have m1 := cell_of (j := 1) K1.out rfl
            have f1 : wc.frozen? ⟨w.heap.size + 1, 1, none⟩ = false := by simp [World.frozen?, K1.out]
            have m2 := cell_of (j := 2) K1.out rfl
            have f2 : wc.frozen? ⟨w.heap.size + 1, 2, none⟩ = false := by simp [World.frozen?, K1.out]
            have m3 := cell_of (j := 3) K1.out rfl
            have f3 : wc.frozen? ⟨w.heap.size + 1, 3, none⟩ = false := by simp [World.frozen?, K1.out]
            have m4 := cell_of (j := 4) K1.out rfl
            have f4 : wc.frozen? ⟨w.heap.size + 1, 4, none⟩ = false := by simp [World.frozen?, K1.out]
            have m5 := cell_of (j := 5) K1.out rfl
            have f5 : wc.frozen? ⟨w.heap.size + 1, 5, none⟩ = false := by simp [World.frozen?, K1.out]
            have m6 := cell_of (j := 6) K1.out rfl
            have f6 : wc.frozen? ⟨w.heap.size + 1, 6, none⟩ = false := by simp [World.frozen?, K1.out]
            go_wp2_with fail
            refine bodyPost_ret (v := .tuple #[.agg #[.int .i64 0, .int .i64 0, .slice none 0 0, .slice none 0 0, .slice none 0 0, .int .i64 0, .int .i64 0], .bool false]) (by simp [results, Try.results30, go_sem, m0, m1, m2, m3, m4, m5, m6]) rfl ⟨by rw [HV.out]; rfl, ?_⟩
            exact (((((((HB3.out.setCell (by simp) _).setCell (by simp) _).setCell (by simp) _).setCell (by simp) _).setCell (by simp) _).setCell (by simp) _).setCell (by simp) _)
          have hs : decide (ClubR q k) = true := decide_eq_true hcl
          have HT2 := Lib.hid (clubsTo_succ HT.out hcl)
          rw [hs]
          clear hs hcl
          go_wp2_with fail
          go_round
          case rel => exact ⟨k + 1, by omega, by go_num, HT2⟩
          case measure => simp [intOf]; omega
      · have hnl : ¬ (k : Int) < (n : Int) := by omega
        obtain rfl : k = n := by omega
        have hva := valid_of HS.out (by rw [← HN.out]; exact HT.out)
        have HVA := Lib.hid hva
        have r4 := cell_of (j := 4) K0.out rfl
        clear hva r2 r3
        go_upto_region 11 with fail
        refine nameC fun W5 hW5 => ?_
        have hb5 : Below wc.heap.size wc W5 := by rw [hW5.out]; exact (Below.refl _ _).alloc (Nat.le_refl _) _
        have k7 : W5.heap[wc.heap.size]? = some (.cells #[.func (.func 47) #[] #[.pointer (some ⟨w.heap.size + 1 + 1, 0, none⟩)]] 71 (0, 0)) := by rw [hW5.out]; exact heap_alloc_new _ _
        obtain ⟨b7, hb7⟩ : ∃ b7, b7 = wc.heap.size := ⟨_, rfl⟩
        rw [← hb7] at k7 ⊢
        have K7 := Lib.hid k7
        replace K0 := Lib.hid ((hb5.block _ (lt_heap K0.out)).trans K0.out)
        replace K1 := Lib.hid ((hb5.block _ (lt_heap K1.out)).trans K1.out)
        replace K2 := Lib.hid ((hb5.block _ (lt_heap K2.out)).trans K2.out)
        replace HB3 := Lib.hid (HB3.out.trans (hb5.mono (by rw [HZ3.out]; omega)))
        clear hW5 hb5 k7 hb7 r4 hnl
        have hno := HS.out.opn
        have ho := HO.out.below HB3.out
        obtain ⟨A', c', e, ho1, ho2, ho3⟩ := id ho
        have e2 := Value.slice.inj e
        obtain ⟨rfl, e3, rfl⟩ := e2
        have CC := containsFunc2_any W5 M oA q.opn.length oc _ (by omega) ho3 49 #[.pointer (some ⟨b7, 0, none⟩)] (fun i => !edgeB k (q.opn.getD i (0, 0))) (enters_of Try.func49 (by kernel_rfl) rfl) (fun i hi wr hwr => edge_any wr _ b7 k (q.opn.getD i (0, 0)) ((hwr.cell (p := ⟨_, 0, none⟩) (lt_heap K2.out)).trans (cell_of (j := 0) K2.out rfl)) ((hwr.cell (p := ⟨_, 0, none⟩) (lt_heap K7.out)).trans (cell_of (j := 0) K7.out rfl)) (Nat.lt_of_lt_of_le (lt_heap K2.out) hwr.size) (Nat.lt_of_lt_of_le (lt_heap K7.out) hwr.size))
        rw [← HNO.out] at CC
        have hany : (List.range no).any (fun i => !edgeB k (q.opn.getD i (0, 0))) = !validB q := by
          rw [HVA.out, HNO.out, ← HN.out, range_anyE q.opn (fun e => !edgeB k e), List.not_all_eq_any_not]
        rw [hany] at CC
        have HCC := Lib.hid CC
        have r4 := cell_of (j := 4) K0.out rfl
        clear CC hany hno ho ho1 ho2 ho3 e e3
        go_wp2_with fail
        refine HCC.out.mono ?_
        rintro e W6 ⟨rfl, hb⟩
        replace K0 := Lib.hid ((hb.block _ (lt_heap K0.out)).trans K0.out)
        replace K1 := Lib.hid ((hb.block _ (lt_heap K1.out)).trans K1.out)
        have hsz5 : w.heap.size ≤ W5.heap.size := HB3.out.size
        replace HB3 := Lib.hid (HB3.out.trans (hb.mono hsz5))
        clear hb r4 K2 K7 HCC HC HP HO
        obtain ⟨ok, hok⟩ : ∃ ok, ok = validB q := ⟨_, rfl⟩
        have HOK := Lib.hid hok.symm
        rw [← hok]
        clear hok
        cases ok
        · skip
          have m0 := cell_of (j := 0) K1.out rfl
          have f0 : W6.frozen? ⟨w.heap.size + 1, 0, none⟩ = false := by simp [World.frozen?, K1.out]
          have m1 := cell_of (j := 1) K1.out rfl
          have f1 : W6.frozen? ⟨w.heap.size + 1, 1, none⟩ = false := by simp [World.frozen?, K1.out]
          have m2 := cell_of (j := 2) K1.out rfl
          have f2 : W6.frozen? ⟨w.heap.size + 1, 2, none⟩ = false := by simp [World.frozen?, K1.out]
          have m3 := cell_of (j := 3) K1.out rfl
          have f3 : W6.frozen? ⟨w.heap.size + 1, 3, none⟩ = false := by simp [World.frozen?, K1.out]
          have m4 := cell_of (j := 4) K1.out rfl
          have f4 : W6.frozen? ⟨w.heap.size + 1, 4, none⟩ = false := by simp [World.frozen?, K1.out]
          have m5 := cell_of (j := 5) K1.out rfl
          have f5 : W6.frozen? ⟨w.heap.size + 1, 5, none⟩ = false := by simp [World.frozen?, K1.out]
          have m6 := cell_of (j := 6) K1.out rfl
          have f6 : W6.frozen? ⟨w.heap.size + 1, 6, none⟩ = false := by simp [World.frozen?, K1.out]
          go_wp2_with fail
          refine bodyPost_ret (v := .tuple #[.agg #[.int .i64 0, .int .i64 0, .slice none 0 0, .slice none 0 0, .slice none 0 0, .int .i64 0, .int .i64 0], .bool false]) (by simp [results, Try.results30, go_sem, m0, m1, m2, m3, m4, m5, m6]) rfl ⟨by rw [HOK.out]; rfl, ?_⟩
          exact (((((((HB3.out.setCell (by simp) _).setCell (by simp) _).setCell (by simp) _).setCell (by simp) _).setCell (by simp) _).setCell (by simp) _).setCell (by simp) _)
        · skip
          have r0 := cell_of (j := 0) K0.out rfl
          have r1 := cell_of (j := 1) K0.out rfl
          have r2 := cell_of (j := 2) K0.out rfl
          have r3 := cell_of (j := 3) K0.out rfl
          have r4 := cell_of (j := 4) K0.out rfl
          have r5 := cell_of (j := 5) K0.out rfl
          have r6 := cell_of (j := 6) K0.out rfl
          have m0 := cell_of (j := 0) K1.out rfl
          have f0 : W6.frozen? ⟨w.heap.size + 1, 0, none⟩ = false := by simp [World.frozen?, K1.out]
          have m1 := cell_of (j := 1) K1.out rfl
          have f1 : W6.frozen? ⟨w.heap.size + 1, 1, none⟩ = false := by simp [World.frozen?, K1.out]
          have m2 := cell_of (j := 2) K1.out rfl
          have f2 : W6.frozen? ⟨w.heap.size + 1, 2, none⟩ = false := by simp [World.frozen?, K1.out]
          have m3 := cell_of (j := 3) K1.out rfl
          have f3 : W6.frozen? ⟨w.heap.size + 1, 3, none⟩ = false := by simp [World.frozen?, K1.out]
          have m4 := cell_of (j := 4) K1.out rfl
          have f4 : W6.frozen? ⟨w.heap.size + 1, 4, none⟩ = false := by simp [World.frozen?, K1.out]
          have m5 := cell_of (j := 5) K1.out rfl
          have f5 : W6.frozen? ⟨w.heap.size + 1, 5, none⟩ = false := by simp [World.frozen?, K1.out]
          have m6 := cell_of (j := 6) K1.out rfl
          have f6 : W6.frozen? ⟨w.heap.size + 1, 6, none⟩ = false := by simp [World.frozen?, K1.out]
          have h01 : ¬ w.heap.size = w.heap.size + 1 := by omega
          go_wp2_with fail
          obtain ⟨W7, hW7⟩ : ∃ W7, W7 = (((((((W6.setCell ⟨w.heap.size + 1, 0, none⟩ (.int .i64 win)).setCell ⟨w.heap.size + 1, 1, none⟩ (.int .i64 draw)).setCell ⟨w.heap.size + 1, 2, none⟩ (.slice cA k cc)).setCell ⟨w.heap.size + 1, 3, none⟩ (.slice pA np pc)).setCell ⟨w.heap.size + 1, 4, none⟩ (.slice oA no oc)).setCell ⟨w.heap.size + 1, 5, none⟩ (.int .i64 club)).setCell ⟨w.heap.size + 1, 6, none⟩ (.int .i64 place)) := ⟨_, rfl⟩
          have hk : W7.heap[w.heap.size + 1]? = some (.cells #[.int .i64 win, .int .i64 draw, .slice cA k cc, .slice pA np pc, .slice oA no oc, .int .i64 club, .int .i64 place] 55 (0, 0)) := by
            have := Blk_set (Blk_set (Blk_set (Blk_set (Blk_set (Blk_set (Blk_set K1.out (j := 0) (.int .i64 win)) (j := 1) (.int .i64 draw)) (j := 2) (.slice cA k cc)) (j := 3) (.slice pA np pc)) (j := 4) (.slice oA no oc)) (j := 5) (.int .i64 club)) (j := 6) (.int .i64 place)
            rw [hW7, this]; rfl
          have hbl : Below w.heap.size w W7 := by rw [hW7]; exact (((((((HB3.out.setCell (by simp) _).setCell (by simp) _).setCell (by simp) _).setCell (by simp) _).setCell (by simp) _).setCell (by simp) _).setCell (by simp) _)
          have j0 := cell_of (j := 0) hk rfl
          have j1 := cell_of (j := 1) hk rfl
          have j2 := cell_of (j := 2) hk rfl
          have j3 := cell_of (j := 3) hk rfl
          have j4 := cell_of (j := 4) hk rfl
          have j5 := cell_of (j := 5) hk rfl
          have j6 := cell_of (j := 6) hk rfl
          rw [← hW7]
          refine bodyPost_ret (v := .tuple #[.agg #[.int .i64 win, .int .i64 draw, .slice cA k cc, .slice pA np pc, .slice oA no oc, .int .i64 club, .int .i64 place], .bool true]) (by simp [results, Try.results30, go_sem, j0, j1, j2, j3, j4, j5, j6]) rfl ⟨by rw [HOK.out]; rfl, hbl⟩
end Go.Proofs.Ythlnfjbedehjdaa
/- witness.completion. -/
namespace Go.Proofs.Ythlnfjbedehjdaa
open Go.RowKit Go.Shelf

theorem out_any (o : Int) (w : World) : Calls Try.prog 45 #[.int .i64 o] w fun e w' => e = .returned (.bool (!outB o)) ∧ Below w.heap.size w w' := by
  unfold outB
  go_enter Try.func45, Try.ntmps45
  by_cases h1 : o < 1
  · have d1 : decide (o < 1) = true := decide_eq_true h1
    have e1 : decide (1 ≤ o) = false := by rw [decide_eq_false_iff_not]; omega
    go_wp2_with fail
    go_ret
    exact ⟨by first | rfl | (rw [e1]; rfl), Below.refl _ _⟩
  · have d1 : decide (o < 1) = false := decide_eq_false h1
    have e1 : decide (1 ≤ o) = true := by rw [decide_eq_true_eq]; omega
    by_cases h2 : 3 < o
    · have d2 : decide (3 < o) = true := decide_eq_true h2
      have e2 : decide (o ≤ 3) = false := by rw [decide_eq_false_iff_not]; omega
      go_wp2_with fail
      go_ret
      exact ⟨by first | rfl | (rw [e1, e2]; rfl), Below.refl _ _⟩
    · have d2 : decide (3 < o) = false := decide_eq_false h2
      have e2 : decide (o ≤ 3) = true := by rw [decide_eq_true_eq]; omega
      go_wp2_with fail
      go_ret
      exact ⟨by first | rfl | (rw [e1, e2]; rfl), Below.refl _ _⟩
/-- what completion answers -/
def complR (q : RaceD) (outs : List Int) : Int := if validB q then (if complB q outs then 0 else 1) else 280
def RetCo (v : Value) (ok : Bool) (z : Int) (w : World) (e : Ending) (w' : World) : Prop := e = .returned (.tuple #[if ok then v else zeroRV, .int .i64 z]) ∧ Below w.heap.size w w'
set_option maxRecDepth 20000 in
set_option maxHeartbeats 4000000 in
theorem compl_any (w : World) (M M' : Nat → Prop) (v u : Value) (q : RaceD) (outs : List Int) (h : IsRace w M v q) (h' : IsInts w M' u outs) (hlen : outs.length ≤ 140737488355328) : Calls Try.prog 26 #[v, u] w (RetCo v (validB q) (complR q outs) w) := by
  obtain ⟨cA, cc, pA, pc, oA, oc, rfl, hc, hp, ho⟩ := h.parts
  obtain ⟨uA, uc, rfl, hu1, hu2, hu3⟩ := id h'
  have HR := Lib.hid h
  have HU := Lib.hid h'
  have HU3 := Lib.hid hu3
  clear hc hp ho h h' hu1 hu2 hu3
  obtain ⟨ok, hok⟩ : ∃ ok, ok = validB q := ⟨_, rfl⟩
  have HOK := Lib.hid hok
  rw [← hok]
  clear hok
  have CK := fun (W : World) (hB : Below w.heap.size w W) => Lib.hid (check_any W M _ q (HR.out.below hB))
  rw [← HOK.out] at CK
  go_enter Try.func26, Try.ntmps26
  go_wp2_with fail
  refine nameW fun W3 hW3 => ?_
  have hb3 : Below w.heap.size w W3 := by rw [hW3.out]; exact ((Below.refl _ _).alloc (Nat.le_refl _) _).alloc (by simp) _
  have k0 : W3.heap[w.heap.size]? = some (.cells #[.int .i64 q.win, .int .i64 q.draw, .slice cA q.clubs.length cc, .slice pA q.points.length pc, .slice oA q.opn.length oc, .int .i64 q.club, .int .i64 q.place] 25 (0, 0)) := by rw [hW3.out]; simp only [heap_alloc_if, World.size_alloc]; rw [if_neg (by omega), if_pos trivial]
  have k1 : W3.heap[w.heap.size + 1]? = some (.cells #[.int .i64 0, .int .i64 0, .slice none 0 0, .slice none 0 0, .slice none 0 0, .int .i64 0, .int .i64 0] 55 (0, 0)) := by rw [hW3.out]; simp only [heap_alloc_if, World.size_alloc]; rw [if_pos trivial]
  have K0 := Lib.hid k0
  have K1 := Lib.hid k1
  have HB3 := Lib.hid hb3
  clear hW3 hb3 k0 k1
  refine (CK W3 HB3.out).out.mono ?_
  rintro e W4 ⟨rfl, hb⟩
  replace K0 := Lib.hid ((hb.block _ (lt_heap K0.out)).trans K0.out)
  replace K1 := Lib.hid ((hb.block _ (lt_heap K1.out)).trans K1.out)
  replace HB3 := Lib.hid (HB3.out.trans (hb.mono HB3.out.size))
  clear hb CK
  have m0 := cell_of (j := 0) K1.out rfl
  have f0 : W4.frozen? ⟨w.heap.size + 1, 0, none⟩ = false := by simp [World.frozen?, K1.out]
  have m1 := cell_of (j := 1) K1.out rfl
  have f1 : W4.frozen? ⟨w.heap.size + 1, 1, none⟩ = false := by simp [World.frozen?, K1.out]
  have m2 := cell_of (j := 2) K1.out rfl
  have f2 : W4.frozen? ⟨w.heap.size + 1, 2, none⟩ = false := by simp [World.frozen?, K1.out]
  have m3 := cell_of (j := 3) K1.out rfl
  have f3 : W4.frozen? ⟨w.heap.size + 1, 3, none⟩ = false := by simp [World.frozen?, K1.out]
  have m4 := cell_of (j := 4) K1.out rfl
  have f4 : W4.frozen? ⟨w.heap.size + 1, 4, none⟩ = false := by simp [World.frozen?, K1.out]
  have m5 := cell_of (j := 5) K1.out rfl
  have f5 : W4.frozen? ⟨w.heap.size + 1, 5, none⟩ = false := by simp [World.frozen?, K1.out]
  have m6 := cell_of (j := 6) K1.out rfl
  have f6 : W4.frozen? ⟨w.heap.size + 1, 6, none⟩ = false := by simp [World.frozen?, K1.out]
  cases ok
  · have HZ := Lib.hid (show complR q outs = 280 by unfold complR; rw [← HOK.out]; rfl)
    rw [show (if false = true then (.agg #[.int .i64 q.win, .int .i64 q.draw, .slice cA q.clubs.length cc, .slice pA q.points.length pc, .slice oA q.opn.length oc, .int .i64 q.club, .int .i64 q.place] : Value) else zeroRV) = .agg #[.int .i64 0, .int .i64 0, .slice none 0 0, .slice none 0 0, .slice none 0 0, .int .i64 0, .int .i64 0] from rfl]
    go_upto_region 2 with fail
    refine nameC fun W5 hW5 => ?_
    have k5 : W5.heap[w.heap.size + 1]? = some (.cells #[.int .i64 0, .int .i64 0, .slice none 0 0, .slice none 0 0, .slice none 0 0, .int .i64 0, .int .i64 0] 55 (0, 0)) := by
      have := Blk_set (Blk_set (Blk_set (Blk_set (Blk_set (Blk_set (Blk_set K1.out (j := 0) (.int .i64 0)) (j := 1) (.int .i64 0)) (j := 2) (.slice none 0 0)) (j := 3) (.slice none 0 0)) (j := 4) (.slice none 0 0)) (j := 5) (.int .i64 0)) (j := 6) (.int .i64 0)
      rw [hW5.out, this]; rfl
    have k6 : W5.heap[w.heap.size]? = some (.cells #[.int .i64 q.win, .int .i64 q.draw, .slice cA q.clubs.length cc, .slice pA q.points.length pc, .slice oA q.opn.length oc, .int .i64 q.club, .int .i64 q.place] 25 (0, 0)) := by
      rw [hW5.out]
      repeat (first | rw [heap_set_if, if_neg (by omega)])
      exact K0.out
    have hb5 : Below w.heap.size w W5 := by rw [hW5.out]; repeat (first | with_reducible exact HB3.out | refine Below.setCell ?_ (by simp) _)
    have K5 := Lib.hid k5
    have K6 := Lib.hid k6
    have HB5 := Lib.hid hb5
    clear hW5 k5 k6 hb5 m0 m1 m2 m3 m4 m5 m6 f0 f1 f2 f3 f4 f5 f6 K0 K1 HB3
    have m0 := cell_of (j := 0) K5.out rfl
    have f0 : W5.frozen? ⟨w.heap.size + 1, 0, none⟩ = false := by simp [World.frozen?, K5.out]
    have m1 := cell_of (j := 1) K5.out rfl
    have f1 : W5.frozen? ⟨w.heap.size + 1, 1, none⟩ = false := by simp [World.frozen?, K5.out]
    have m2 := cell_of (j := 2) K5.out rfl
    have f2 : W5.frozen? ⟨w.heap.size + 1, 2, none⟩ = false := by simp [World.frozen?, K5.out]
    have m3 := cell_of (j := 3) K5.out rfl
    have f3 : W5.frozen? ⟨w.heap.size + 1, 3, none⟩ = false := by simp [World.frozen?, K5.out]
    have m4 := cell_of (j := 4) K5.out rfl
    have f4 : W5.frozen? ⟨w.heap.size + 1, 4, none⟩ = false := by simp [World.frozen?, K5.out]
    have m5 := cell_of (j := 5) K5.out rfl
    have f5 : W5.frozen? ⟨w.heap.size + 1, 5, none⟩ = false := by simp [World.frozen?, K5.out]
    have m6 := cell_of (j := 6) K5.out rfl
    have f6 : W5.frozen? ⟨w.heap.size + 1, 6, none⟩ = false := by simp [World.frozen?, K5.out]
    go_wp2_with fail
    refine bodyPost_ret (v := .tuple #[.agg #[.int .i64 0, .int .i64 0, .slice none 0 0, .slice none 0 0, .slice none 0 0, .int .i64 0, .int .i64 0], .int .i64 280]) (by simp [results, Try.results26, go_sem, m0, m1, m2, m3, m4, m5, m6]) rfl ⟨by rw [HZ.out]; rfl, ?_⟩
    repeat (first | with_reducible exact HB5.out | refine Below.setCell ?_ (by simp) _)
  · have HZ := Lib.hid (show complR q outs = if complB q outs then 0 else 1 by unfold complR; rw [← HOK.out]; rfl)
    rw [show (if true = true then (.agg #[.int .i64 q.win, .int .i64 q.draw, .slice cA q.clubs.length cc, .slice pA q.points.length pc, .slice oA q.opn.length oc, .int .i64 q.club, .int .i64 q.place] : Value) else zeroRV) = .agg #[.int .i64 q.win, .int .i64 q.draw, .slice cA q.clubs.length cc, .slice pA q.points.length pc, .slice oA q.opn.length oc, .int .i64 q.club, .int .i64 q.place] from rfl]
    go_upto_region 2 with fail
    refine nameC fun W5 hW5 => ?_
    have k5 : W5.heap[w.heap.size + 1]? = some (.cells #[.int .i64 q.win, .int .i64 q.draw, .slice cA q.clubs.length cc, .slice pA q.points.length pc, .slice oA q.opn.length oc, .int .i64 q.club, .int .i64 q.place] 55 (0, 0)) := by
      have := Blk_set (Blk_set (Blk_set (Blk_set (Blk_set (Blk_set (Blk_set K1.out (j := 0) (.int .i64 q.win)) (j := 1) (.int .i64 q.draw)) (j := 2) (.slice cA q.clubs.length cc)) (j := 3) (.slice pA q.points.length pc)) (j := 4) (.slice oA q.opn.length oc)) (j := 5) (.int .i64 q.club)) (j := 6) (.int .i64 q.place)
      rw [hW5.out, this]; rfl
    have k6 : W5.heap[w.heap.size]? = some (.cells #[.int .i64 q.win, .int .i64 q.draw, .slice cA q.clubs.length cc, .slice pA q.points.length pc, .slice oA q.opn.length oc, .int .i64 q.club, .int .i64 q.place] 25 (0, 0)) := by
      rw [hW5.out]
      repeat (first | rw [heap_set_if, if_neg (by omega)])
      exact K0.out
    have hb5 : Below w.heap.size w W5 := by rw [hW5.out]; repeat (first | with_reducible exact HB3.out | refine Below.setCell ?_ (by simp) _)
    have K5 := Lib.hid k5
    have K6 := Lib.hid k6
    have HB5 := Lib.hid hb5
    clear hW5 k5 k6 hb5 m0 m1 m2 m3 m4 m5 m6 f0 f1 f2 f3 f4 f5 f6 K0 K1 HB3
    have r4 := cell_of (j := 4) K6.out rfl
    obtain ⟨cb, hcb⟩ : ∃ cb, cb = complB q outs := ⟨_, rfl⟩
    rw [← hcb] at HZ
    by_cases hl : outs.length = q.opn.length
    · have hl1 : ((outs.length : Int) != (q.opn.length : Int)) = false := by rw [bne_eq_false_iff_eq]; omega
      have hcb2 : cb = outs.all outB := by rw [hcb]; unfold complB; rw [decide_eq_true hl, Bool.true_and]
      have CC := Lib.hid (containsFunc1_any W5 M' uA outs.length uc _ hlen (HU3.out.keep fun _ _ hp => HB5.out.cell hp) (fun i _ => ⟨_, rfl⟩) 45 #[] (fun i => !outB (outs.getD i 0)) (enters_of Try.func45 (by kernel_rfl) rfl) (fun i hi wr hwr => out_any (outs.getD i 0) wr))
      have hany : (List.range outs.length).any (fun i => !outB (outs.getD i 0)) = !cb := by
        rw [hcb2]
        show (List.range outs.length).any (fun i => (fun y => !outB y) (nthI outs i)) = _
        rw [range_anyI outs (fun y => !outB y), List.not_all_eq_any_not]
      rw [hany] at CC
      clear hany hcb2 hcb hl
      go_wp2_with fail
      refine CC.out.mono ?_
      rintro e W6 ⟨rfl, hb⟩
      replace K5 := Lib.hid ((hb.block _ (lt_heap K5.out)).trans K5.out)
      replace HB5 := Lib.hid (HB5.out.trans (hb.mono HB5.out.size))
      clear hb CC r4 hl1
      have m0 := cell_of (j := 0) K5.out rfl
      have f0 : W6.frozen? ⟨w.heap.size + 1, 0, none⟩ = false := by simp [World.frozen?, K5.out]
      have m1 := cell_of (j := 1) K5.out rfl
      have f1 : W6.frozen? ⟨w.heap.size + 1, 1, none⟩ = false := by simp [World.frozen?, K5.out]
      have m2 := cell_of (j := 2) K5.out rfl
      have f2 : W6.frozen? ⟨w.heap.size + 1, 2, none⟩ = false := by simp [World.frozen?, K5.out]
      have m3 := cell_of (j := 3) K5.out rfl
      have f3 : W6.frozen? ⟨w.heap.size + 1, 3, none⟩ = false := by simp [World.frozen?, K5.out]
      have m4 := cell_of (j := 4) K5.out rfl
      have f4 : W6.frozen? ⟨w.heap.size + 1, 4, none⟩ = false := by simp [World.frozen?, K5.out]
      have m5 := cell_of (j := 5) K5.out rfl
      have f5 : W6.frozen? ⟨w.heap.size + 1, 5, none⟩ = false := by simp [World.frozen?, K5.out]
      have m6 := cell_of (j := 6) K5.out rfl
      have f6 : W6.frozen? ⟨w.heap.size + 1, 6, none⟩ = false := by simp [World.frozen?, K5.out]
      cases cb
      · skip
        go_wp2_with fail
        refine bodyPost_ret (v := .tuple #[.agg #[.int .i64 q.win, .int .i64 q.draw, .slice cA q.clubs.length cc, .slice pA q.points.length pc, .slice oA q.opn.length oc, .int .i64 q.club, .int .i64 q.place], .int .i64 1]) (by simp [results, Try.results26, go_sem, m0, m1, m2, m3, m4, m5, m6]) rfl ⟨by rw [HZ.out]; rfl, ?_⟩
        repeat (first | with_reducible exact HB5.out | refine Below.setCell ?_ (by simp) _)
      · skip
        go_wp2_with fail
        refine bodyPost_ret (v := .tuple #[.agg #[.int .i64 q.win, .int .i64 q.draw, .slice cA q.clubs.length cc, .slice pA q.points.length pc, .slice oA q.opn.length oc, .int .i64 q.club, .int .i64 q.place], .int .i64 0]) (by simp [results, Try.results26, go_sem, m0, m1, m2, m3, m4, m5, m6]) rfl ⟨by rw [HZ.out]; rfl, ?_⟩
        repeat (first | with_reducible exact HB5.out | refine Below.setCell ?_ (by simp) _)
    · have hl1 : ((outs.length : Int) != (q.opn.length : Int)) = true := by rw [bne_iff_ne]; omega
      have hcb2 : cb = false := by rw [hcb]; unfold complB; rw [decide_eq_false hl, Bool.false_and]
      rw [hcb2] at HZ
      clear hcb2 hcb hl
      have m0 := cell_of (j := 0) K5.out rfl
      have f0 : W5.frozen? ⟨w.heap.size + 1, 0, none⟩ = false := by simp [World.frozen?, K5.out]
      have m1 := cell_of (j := 1) K5.out rfl
      have f1 : W5.frozen? ⟨w.heap.size + 1, 1, none⟩ = false := by simp [World.frozen?, K5.out]
      have m2 := cell_of (j := 2) K5.out rfl
      have f2 : W5.frozen? ⟨w.heap.size + 1, 2, none⟩ = false := by simp [World.frozen?, K5.out]
      have m3 := cell_of (j := 3) K5.out rfl
      have f3 : W5.frozen? ⟨w.heap.size + 1, 3, none⟩ = false := by simp [World.frozen?, K5.out]
      have m4 := cell_of (j := 4) K5.out rfl
      have f4 : W5.frozen? ⟨w.heap.size + 1, 4, none⟩ = false := by simp [World.frozen?, K5.out]
      have m5 := cell_of (j := 5) K5.out rfl
      have f5 : W5.frozen? ⟨w.heap.size + 1, 5, none⟩ = false := by simp [World.frozen?, K5.out]
      have m6 := cell_of (j := 6) K5.out rfl
      have f6 : W5.frozen? ⟨w.heap.size + 1, 6, none⟩ = false := by simp [World.frozen?, K5.out]
      go_wp2_with fail
      refine bodyPost_ret (v := .tuple #[.agg #[.int .i64 q.win, .int .i64 q.draw, .slice cA q.clubs.length cc, .slice pA q.points.length pc, .slice oA q.opn.length oc, .int .i64 q.club, .int .i64 q.place], .int .i64 1]) (by simp [results, Try.results26, go_sem, m0, m1, m2, m3, m4, m5, m6]) rfl ⟨by rw [HZ.out]; rfl, ?_⟩
      repeat (first | with_reducible exact HB5.out | refine Below.setCell ?_ (by simp) _)
end Go.Proofs.Ythlnfjbedehjdaa
