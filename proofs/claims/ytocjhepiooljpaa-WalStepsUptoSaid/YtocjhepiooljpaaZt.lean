import Derived.Test.YtocjhepiooljpaaMem
import Derived.Shelf.Abstract
import Derived.Maps.AppendAt
import Derived.Deep.AppendLies
import Derived.OwnWalk
namespace Go.Proofs.Ytocjhepiooljpaa
open Go.RowKit

set_option maxHeartbeats 1000000 in
theorem refCheck_any (w : World) (M : Nat → Prop) (d : DiskD) (v : Value) (h : IsDisk w M v d) :
    Calls Try.prog 33 #[v] w fun e w' => e = .returned (.int .i64 (chk d)) ∧ Below w.heap.size w w' := by
  obtain ⟨sA, sc, pA, pc, rfl, hs1, hs2, hs3, hp1, hp2, hp3⟩ := h.parts
  by_cases hh : headOk d = true
  · have HH := Lib.hid hh
    simp only [headOk, Bool.and_eq_true, decide_eq_true_eq] at hh
    obtain ⟨⟨⟨⟨g1, g2⟩, g3⟩, g4⟩, g5⟩ := hh
    go_enter Try.func33, Try.ntmps33
    go_wp2
    go_loop [4] (fun i => ∃ k : Nat, k ≤ d.sectors.length ∧ i = .int .i64 k ∧ upTo secOk d.sectors k) (fun i => d.sectors.length - (intOf i).toNat)
    case atStart => exact ⟨0, Nat.zero_le _, rfl, upTo_zero⟩
    case round =>
      obtain ⟨k, hk, rfl, hsec⟩ := hrel
      by_cases hlt : k < d.sectors.length
      · obtain ⟨b, off, bA, bc, rfl, hbl, hck, hb1, hb2, hb3⟩ := hs3.at_ (Below.refl _ _) hlt
        go_wp2
        · go_ret
          have hne : (((d.sectors[k]).length : Int) != 128) = true := by assumption
          exact ⟨ret_int (chk_sec hlt (by rw [bne_iff_ne] at hne; omega)).symm, (Below.refl _ _).alloc (Nat.le_refl _) _⟩
        · go_round
          case rel =>
            have hne : (((d.sectors[k]).length : Int) != 128) = false := by assumption
            exact ⟨k + 1, by omega, by go_num, upTo_succ hsec hlt (by rw [bne_eq_false_iff_eq] at hne; simp only [secOk, decide_eq_true_eq]; omega)⟩
          case measure => simp [intOf]; omega
      · go_wp2
        obtain rfl : k = d.sectors.length := by omega
        go_loopw [5] (fun i wr => ∃ k : Nat, k ≤ d.pending.length ∧ i = .int .i64 k ∧ upTo (penOk d.sectors.length) d.pending k ∧ Below (w.heap.size + 1) (w.alloc (.cells #[.slice sA d.sectors.length sc, .slice pA d.pending.length pc, .int .i64 d.left, .bool d.stopped] 25)) wr) (fun i _ => d.pending.length - (intOf i).toNat)
        case atStart => exact ⟨0, Nat.zero_le _, rfl, upTo_zero, Below.refl _ _⟩
        case round =>
          obtain ⟨k, hk, rfl, hpen, hbel⟩ := hrel
          have hbo : Below w.heap.size w wr := ((Below.refl w.heap.size w).alloc (Nat.le_refl _) _).trans (hbel.mono (by omega))
          have hc1 := hbel.cell (p := ⟨w.heap.size, 1, none⟩) (by simp)
          simp at hc1
          have hsz := bsz hbel
          simp at hsz
          have HBE := Lib.hid hbel
          have HBO := Lib.hid hbo
          clear hbel hbo
          by_cases hlt : k < d.pending.length
          · obtain ⟨b, off, bA, bc, rfl, hbl, hck, hck1, hb1, hb2, hb3⟩ := hp3.at_ HBO.out hlt
            by_cases hq : penOk d.sectors.length d.pending[k] = true
            · have HU := Lib.hid (upTo_succ hpen hlt hq)
              simp only [penOk, Bool.and_eq_true, decide_eq_true_eq] at hq
              obtain ⟨⟨q1, q2⟩, q3⟩ := hq
              have q4 : (((d.pending[k]).data.length : Int) != 128) = false := by rw [bne_eq_false_iff_eq]; omega
              clear q3
              go_wp2
              go_roundw
              case rel => exact ⟨k + 1, by omega, by go_num, HU.out, HBE.out.alloc (by omega) _⟩
              case measure => simp [intOf]; omega
            · have HC := Lib.hid (chk_pen hlt (by simpa using hq))
              simp only [penOk, Bool.and_eq_true, decide_eq_true_eq] at hq
              go_wp2
              all_goals first
                | (go_ret; exact ⟨ret_int HC.out.symm, HBO.out.alloc (by omega) _⟩)
                | (exfalso; have q4 : (((d.pending[k]).data.length : Int) != 128) = false := (by first | assumption | exact (And.right (by assumption))); rw [bne_eq_false_iff_eq] at q4; apply hq; refine ⟨⟨?_, ?_⟩, ?_⟩ <;> omega)
          · go_wp2
            go_ret
            obtain rfl : k = d.pending.length := by omega
            exact ⟨ret_int (chk_ok HH.out hsec hpen).symm, HBO.out⟩
  · have hch := chk_head (by simpa using hh)
    have HC := Lib.hid hch
    clear hch
    simp only [headOk, Bool.and_eq_true, decide_eq_true_eq] at hh
    go_enter Try.func33, Try.ntmps33
    go_wp2
    all_goals first | (exfalso; omega) | (go_ret; exact ⟨ret_int HC.out.symm, (Below.refl _ _).alloc (Nat.le_refl _) _⟩)
end Go.Proofs.Ytocjhepiooljpaa
namespace Go.Proofs.Ytocjhepiooljpaa
open Go.RowKit Go.Shelf

def idxF (p : Nat → Bool) (n : Nat) : Int := match (List.range n).find? p with | some i => i | none => -1
theorem idxF_none {p : Nat → Bool} {n : Nat} (h : ∀ j, j < n → p j = false) : idxF p n = -1 := by
  have : (List.range n).find? p = none := by rw [List.find?_eq_none]; intro x hx; simp [h x (List.mem_range.1 hx)]
  simp [idxF, this]
theorem idxF_some {p : Nat → Bool} {n k : Nat} (hk : k < n) (hp : p k = true) (h : ∀ j, j < k → p j = false) : idxF p n = k := by
  have : (List.range n).find? p = some k := by
    rw [List.find?_range_eq_some]; exact ⟨hp, by simpa using hk, fun j hj => by simp [h j hj]⟩
  simp [idxF, this]
theorem idxF_any (p : Nat → Bool) (n : Nat) : decide (0 ≤ idxF p n) = (List.range n).any p := by
  unfold idxF
  cases h : (List.range n).find? p with
  | none => 
    rw [List.find?_eq_none] at h
    have : (List.range n).any p = false := by rw [List.any_eq_false]; exact h
    simp [this]
  | some i =>
    have := List.find?_some h
    have hm := List.mem_of_find?_eq_some h
    have : (List.range n).any p = true := by rw [List.any_eq_true]; exact ⟨i, hm, this⟩
    simp [this]
def noneTo (p : Nat → Bool) (k : Nat) : Prop := ∀ j, j < k → p j = false
theorem noneTo_succ {p : Nat → Bool} {k : Nat} (h : noneTo p k) (hp : p k = false) : noneTo p (k + 1) := fun j hj => by
  rcases Nat.lt_or_ge j k with h1 | h1
  · exact h j h1
  · obtain rfl : j = k := by omega
    exact hp
/-- the predicate g with what it has captured answers p at each element -/
def Pred2 (P : Program) (w : World) (g : FuncId) (cap : Array Value) (n : Nat) (f : Nat → Nat → Value) (p : Nat → Bool) : Prop :=
  ∀ i, i < n → ∀ wr, Below w.heap.size w wr → Calls P g (#[.agg #[f i 0, f i 1]] ++ cap) wr fun e w' => e = .returned (.bool (p i)) ∧ Below wr.heap.size wr w'
def Pred1 (P : Program) (w : World) (g : FuncId) (cap : Array Value) (n : Nat) (f : Nat → Nat → Value) (p : Nat → Bool) : Prop :=
  ∀ i, i < n → ∀ wr, Below w.heap.size w wr → Calls P g (#[f i 0] ++ cap) wr fun e w' => e = .returned (.bool (p i)) ∧ Below wr.heap.size wr w'

set_option maxHeartbeats 400000 in
theorem isSector_any (w : World) (A : Option Addr) (n c : Nat) :
    Calls Try.prog 56 #[.slice A n c] w fun e w' => e = .returned (.bool ((n : Int) == 128)) ∧ w = w' := by
  go_enter Try.func56, Try.ntmps56
  go_wp2
  go_ret
  exact ⟨rfl, rfl⟩
set_option maxHeartbeats 400000 in
theorem check2_any (w : World) (A : Option Addr) (n c : Nat) :
    Calls Try.prog 59 #[.slice A n c] w fun e w' => e = .returned (.bool (!((n : Int) == 128))) ∧ w = w' := by
  go_enter Try.func59, Try.ntmps59
  go_wp2_with (go_at_call 56; refine (isSector_any _ _ _ _).mono ?_; rintro e w' ⟨rfl, rfl⟩)
  go_ret
  exact ⟨rfl, rfl⟩

set_option maxHeartbeats 400000 in
theorem check1_any (w : World) (A : Option Addr) (x : Int) (n c m : Nat) (b : Nat) (hb : w.cell? ⟨b, 0, none⟩ = some (.int .i64 m)) :
    Calls Try.prog 55 #[.agg #[.int .i64 x, .slice A n c], .pointer (some ⟨b, 0, none⟩)] w fun e w' => e = .returned (.bool (!(decide (0 ≤ x) && decide (x < m) && decide (n = 128)))) ∧ Below w.heap.size w w' := by
  have hl : b < w.heap.size := lt_of_cell hb
  by_cases h1 : x < 0
  · go_enter Try.func55, Try.ntmps55
    go_wp2
    go_ret
    exact ⟨ret_bool (by simp; omega), (Below.refl _ _).alloc (Nat.le_refl _) _⟩
  · by_cases h2 : (m : Int) ≤ x
    · go_enter Try.func55, Try.ntmps55
      go_wp2
      go_ret
      exact ⟨ret_bool (by simp; omega), (Below.refl _ _).alloc (Nat.le_refl _) _⟩
    · go_enter Try.func55, Try.ntmps55
      go_wp2_with (go_at_call 56; refine (isSector_any _ _ _ _).mono ?_; rintro e w' ⟨rfl, rfl⟩)
      go_ret
      exact ⟨ret_bool (by rw [decide_eq_true (by omega : 0 ≤ x), decide_eq_true (by omega : x < m), Bool.true_and, Bool.true_and]; congr 1; rw [Bool.eq_iff_iff]; simp; omega), (Below.refl _ _).alloc (Nat.le_refl _) _⟩

set_option maxHeartbeats 400000 in
theorem indexFunc2_any (w : World) (M : Nat → Prop) (A : Option Addr) (n c : Nat) (f : Nat → Nat → Value) (hn : n ≤ 140737488355328) (hc : Cells w M 2 A n f) (g : FuncId) (cap : Array Value) (p : Nat → Bool) (hg : Enters Try.prog g) (hp : Pred2 Try.prog w g cap n f p) :
    Calls Try.prog 70 #[.slice A n c, .func (.func g) #[] cap] w fun e w' => e = .returned (.int .i64 (idxF p n)) ∧ Below w.heap.size w w' := by
  go_enter Try.func70, Try.ntmps70
  go_wp2
  go_loopw [8] (fun i wr => ∃ k : Nat, k ≤ n ∧ i = .int .i64 k ∧ noneTo p k ∧ Below w.heap.size w wr) (fun i _ => n - (intOf i).toNat)
  case atStart => exact ⟨0, Nat.zero_le _, rfl, fun j hj => absurd hj (by omega), Below.refl _ _⟩
  case round =>
    obtain ⟨k, hk, rfl, hno, hbel⟩ := hrel
    by_cases hlt : k < n
    · obtain ⟨b, off, rfl, _, hbl, hck, hck1⟩ := hc.at2 hbel hlt
      have hg' := fun args => hg args wr
      have HP := hp k hlt wr hbel
      have HP' := Lib.hid HP
      clear HP hg
      go_wp2_with fail
      refine HP'.out.mono ?_
      rintro e w1 ⟨rfl, hb1⟩
      by_cases hpk : p k = true
      · rw [hpk]
        go_wp2_with fail
        go_ret
        exact ⟨ret_int (idxF_some hlt hpk hno).symm, hbel.trans (hb1.mono hbel.size)⟩
      · have hpf : p k = false := by simpa using hpk
        rw [hpf]
        have HN := Lib.hid (noneTo_succ hno hpf)
        clear hpf hpk
        go_wp2_with fail
        go_roundw
        case rel => exact ⟨k + 1, by omega, by go_num, HN.out, hbel.trans (hb1.mono hbel.size)⟩
        case measure => simp [intOf]; omega
    · go_wp2
      go_ret
      obtain rfl : k = n := by omega
      exact ⟨ret_int (idxF_none hno).symm, hbel⟩

set_option maxHeartbeats 400000 in
theorem containsFunc2_any (w : World) (M : Nat → Prop) (A : Option Addr) (n c : Nat) (f : Nat → Nat → Value) (hn : n ≤ 140737488355328) (hc : Cells w M 2 A n f) (g : FuncId) (cap : Array Value) (p : Nat → Bool) (hg : Enters Try.prog g) (hp : Pred2 Try.prog w g cap n f p) :
    Calls Try.prog 57 #[.slice A n c, .func (.func g) #[] cap] w fun e w' => e = .returned (.bool ((List.range n).any p)) ∧ Below w.heap.size w w' := by
  have H := Lib.hid (indexFunc2_any w M A n c f hn hc g cap p hg hp)
  clear hg hp
  go_enter Try.func57, Try.ntmps57
  go_wp2_with fail
  refine H.out.mono ?_
  rintro e w1 ⟨rfl, hb1⟩
  go_wp2_with fail
  go_ret
  exact ⟨ret_bool (idxF_any p n), hb1⟩
set_option maxHeartbeats 400000 in
theorem indexFunc1_any (w : World) (M : Nat → Prop) (A : Option Addr) (n c : Nat) (f : Nat → Nat → Value) (hn : n ≤ 140737488355328) (hc : Cells w M 1 A n f) (hsl : ∀ i, i < n → ∃ A' n' c', f i 0 = .slice A' n' c') (g : FuncId) (p : Nat → Bool) (hg : Enters Try.prog g) (hp : Pred1 Try.prog w g #[] n f p) :
    Calls Try.prog 71 #[.slice A n c, .func (.func g) #[] #[]] w fun e w' => e = .returned (.int .i64 (idxF p n)) ∧ Below w.heap.size w w' := by
  go_enter Try.func71, Try.ntmps71
  go_wp2
  go_loopw [8] (fun i wr => ∃ k : Nat, k ≤ n ∧ i = .int .i64 k ∧ noneTo p k ∧ Below w.heap.size w wr) (fun i _ => n - (intOf i).toNat)
  case atStart => exact ⟨0, Nat.zero_le _, rfl, fun j hj => absurd hj (by omega), Below.refl _ _⟩
  case round =>
    obtain ⟨k, hk, rfl, hno, hbel⟩ := hrel
    by_cases hlt : k < n
    · obtain ⟨b, off, rfl, _, hbl, hck⟩ := hc.at1 hbel hlt
      have hg' := fun args => hg args wr
      have HP := hp k hlt wr hbel
      obtain ⟨A', n', c', hfk⟩ := hsl k hlt
      rw [hfk] at HP hck
      have HP' := Lib.hid HP
      clear HP hg hfk
      go_wp2_with fail
      refine HP'.out.mono ?_
      rintro e w1 ⟨rfl, hb1⟩
      by_cases hpk : p k = true
      · rw [hpk]
        go_wp2_with fail
        go_ret
        exact ⟨ret_int (idxF_some hlt hpk hno).symm, hbel.trans (hb1.mono hbel.size)⟩
      · have hpf : p k = false := by simpa using hpk
        rw [hpf]
        have HN := Lib.hid (noneTo_succ hno hpf)
        clear hpf hpk
        go_wp2_with fail
        go_roundw
        case rel => exact ⟨k + 1, by omega, by go_num, HN.out, hbel.trans (hb1.mono hbel.size)⟩
        case measure => simp [intOf]; omega
    · go_wp2
      go_ret
      obtain rfl : k = n := by omega
      exact ⟨ret_int (idxF_none hno).symm, hbel⟩
set_option maxHeartbeats 400000 in
theorem containsFunc1_any (w : World) (M : Nat → Prop) (A : Option Addr) (n c : Nat) (f : Nat → Nat → Value) (hn : n ≤ 140737488355328) (hc : Cells w M 1 A n f) (hsl : ∀ i, i < n → ∃ A' n' c', f i 0 = .slice A' n' c') (g : FuncId) (p : Nat → Bool) (hg : Enters Try.prog g) (hp : Pred1 Try.prog w g #[] n f p) :
    Calls Try.prog 58 #[.slice A n c, .func (.func g) #[] #[]] w fun e w' => e = .returned (.bool ((List.range n).any p)) ∧ Below w.heap.size w w' := by
  have H := Lib.hid (indexFunc1_any w M A n c f hn hc hsl g p hg hp)
  clear hg hp hsl
  go_enter Try.func58, Try.ntmps58
  go_wp2_with fail
  refine H.out.mono ?_
  rintro e w1 ⟨rfl, hb1⟩
  go_wp2_with fail
  go_ret
  exact ⟨ret_bool (idxF_any p n), hb1⟩
end Go.Proofs.Ytocjhepiooljpaa
namespace Go.Proofs.Ytocjhepiooljpaa
open Go.RowKit Go.Shelf

theorem range_any {α : Type} (q : α → Bool) (z : α) (l : List α) : (List.range l.length).any (fun i => !(q (l.getD i z))) = !(l.all q) := by
  rw [Bool.eq_iff_iff]
  simp only [List.any_eq_true, List.mem_range, Bool.not_eq_true', List.all_eq_false]
  constructor
  · rintro ⟨i, hi, h⟩
    refine ⟨l.getD i z, ?_, by rw [h]; simp⟩
    simp [List.getD_eq_getElem?_getD, hi]
  · rintro ⟨x, hx, h⟩
    obtain ⟨i, hi, rfl⟩ := List.getElem_of_mem hx
    exact ⟨i, hi, by simpa [List.getD_eq_getElem?_getD, hi] using h⟩

theorem Cells.below {w w' : World} {M : Nat → Prop} {sz n : Nat} {A : Option Addr} {f : Nat → Nat → Value} (h : Cells w M sz A n f) (hb : Below w.heap.size w w') : Cells w' M sz A n f := h.keep fun _ _ hp => hb.cell hp

set_option maxHeartbeats 400000 in
theorem check_head (w : World) (M : Nat → Prop) (d : DiskD) (v : Value) (h : IsDisk w M v d) (hh : headOk d = true) :
    Calls Try.prog 31 #[v] w fun e w' => e = .returned (.int .i64 (chk d)) ∧ Below w.heap.size w w' := by
  obtain ⟨sA, sc, pA, pc, rfl, hs1, hs2, ⟨vs, hs3, hs4⟩, hp1, hp2, ⟨ws, hp3, hp4⟩⟩ := h.parts
  have HH := Lib.hid hh
  simp only [headOk, Bool.and_eq_true, decide_eq_true_eq] at hh
  obtain ⟨⟨⟨⟨g1, g2⟩, g3⟩, g4⟩, g5⟩ := hh
  obtain ⟨W1, hW1⟩ : ∃ W1, W1 = (w.alloc (.cells #[.slice sA d.sectors.length sc, .slice pA d.pending.length pc, .int .i64 d.left, .bool d.stopped] 25)).alloc (.cells #[.int .i64 d.sectors.length] 3) := ⟨_, rfl⟩
  have hB1 : Below w.heap.size w W1 := by rw [hW1]; exact ((Below.refl w.heap.size w).alloc (Nat.le_refl _) _).alloc (by simp) _
  have hcn : W1.cell? ⟨w.heap.size + 1, 0, none⟩ = some (.int .i64 d.sectors.length) := by rw [hW1]; simp
  have hz : W1.heap.size = w.heap.size + 2 := by rw [hW1]; simp
  have e29 : Enters Try.prog 55 := enters_of Try.func55 (by kernel_rfl) rfl
  have e33 : Enters Try.prog 59 := enters_of Try.func59 (by kernel_rfl) rfl
  have C1 := Lib.hid (containsFunc2_any W1 M pA d.pending.length pc _ (by omega) (hp3.below hB1) 55 #[.pointer (some ⟨w.heap.size + 1, 0, none⟩)] (fun i => !(penOk d.sectors.length (d.pending.getD i w0))) e29 (by
    intro i hi wr hwr
    obtain ⟨bA, bc, e, _, _, _⟩ := hp4 i hi
    simp only [if_true, e, Nat.succ_ne_zero, if_false]
    exact (check1_any wr bA _ _ bc d.sectors.length (w.heap.size + 1) ((hwr.cell (p := ⟨w.heap.size + 1, 0, none⟩) (by simp; omega)).trans hcn)).mono fun e w' h => h))
  have C2 := fun (W2 : World) (hW : Below W1.heap.size W1 W2) => Lib.hid (containsFunc1_any W2 M sA d.sectors.length sc (fun i _ => vs i) (by omega) ((hs3.below hB1).below hW) (fun i hi => by obtain ⟨bA, bc, e, _⟩ := hs4 i hi; exact ⟨_, _, _, e⟩) 59 (fun i => !(secOk (d.sectors.getD i []))) e33 (by
    intro i hi wr hwr
    obtain ⟨bA, bc, e, _, _, _⟩ := hs4 i hi
    simp only [e]
    refine (check2_any wr bA _ bc).mono fun e w' h => ⟨h.1.trans (ret_bool ?_), h.2 ▸ Below.refl _ _⟩
    simp only [secOk]; congr 1; rw [Bool.eq_iff_iff]; simp; omega))
  rw [range_any] at C1
  have C2' := C2
  clear C2
  have HB1 := Lib.hid hB1
  have HW1 := Lib.hid hW1
  have HZ := Lib.hid hz
  have HCN := Lib.hid hcn
  clear hB1 hz hcn hs3 hs4 hp3 hp4 e29 e33 h
  have K := Lib.hid C2'
  clear C2'
  go_enter Try.func31, Try.ntmps31
  go_wp2_with fail
  rw [← HW1.out]
  refine C1.out.mono ?_
  rintro e w1 ⟨rfl, hb1⟩
  have K1 := K.out w1 hb1
  rw [range_any] at K1
  have c0 := hb1.cell (p := ⟨w.heap.size, 0, none⟩) (by have := HZ.out; simp; omega)
  rw [HW1.out] at c0
  simp at c0
  by_cases ha : d.pending.all (penOk d.sectors.length) = true
  · rw [ha]
    go_wp2_with fail
    refine K1.out.mono ?_
    rintro e w2 ⟨rfl, hb2⟩
    by_cases hs : d.sectors.all secOk = true
    · rw [hs]
      have HR : Hid (chk d = 0) := by simp [Hid, chk, okB, ha, hs, HH.out]
      clear ha hs
      go_wp2_with fail
      go_ret
      exact ⟨ret_int HR.out.symm, HB1.out.trans ((hb1.trans (hb2.mono hb1.size)).mono HB1.out.size)⟩
    · have hs' : d.sectors.all secOk = false := by simpa using hs
      rw [hs']
      have HR : Hid (chk d = 340) := by simp [Hid, chk, okB, hs']
      clear ha hs hs'
      go_wp2_with fail
      go_ret
      exact ⟨ret_int HR.out.symm, HB1.out.trans ((hb1.trans (hb2.mono hb1.size)).mono HB1.out.size)⟩
  · have ha' : d.pending.all (penOk d.sectors.length) = false := by simpa using ha
    rw [ha']
    have HR : Hid (chk d = 340) := by simp [Hid, chk, okB, ha']
    clear ha ha'
    go_wp2_with fail
    go_ret
    exact ⟨ret_int HR.out.symm, HB1.out.trans (hb1.mono HB1.out.size)⟩

set_option maxHeartbeats 400000 in
theorem check_nohead (w : World) (M : Nat → Prop) (d : DiskD) (v : Value) (h : IsDisk w M v d) (hh : headOk d = false) :
    Calls Try.prog 31 #[v] w fun e w' => e = .returned (.int .i64 (chk d)) ∧ Below w.heap.size w w' := by
  obtain ⟨sA, sc, pA, pc, rfl, hs1, hs2, _, hp1, hp2, _⟩ := h.parts
  have HC := Lib.hid (chk_head hh)
  have hh' : ¬ headOk d = true := by simp [hh]
  simp only [headOk, Bool.and_eq_true, decide_eq_true_eq] at hh'
  clear hh h
  have hc : d.sectors.length < 1 ∨ (1 ≤ d.sectors.length ∧ 4096 < d.sectors.length) ∨ (1 ≤ d.sectors.length ∧ d.sectors.length ≤ 4096 ∧ 4096 < d.pending.length) ∨
    (1 ≤ d.sectors.length ∧ d.sectors.length ≤ 4096 ∧ d.pending.length ≤ 4096 ∧ d.left < -1) ∨ (1 ≤ d.sectors.length ∧ d.sectors.length ≤ 4096 ∧ d.pending.length ≤ 4096 ∧ -1 ≤ d.left ∧ 65536 < d.left) := by omega
  clear hh'
  rcases hc with q | ⟨q1, q⟩ | ⟨q1, q2, q⟩ | ⟨q1, q2, q3, q⟩ | ⟨q1, q2, q3, q4, q⟩
  all_goals
    go_enter Try.func31, Try.ntmps31
    go_wp2_with fail
    go_ret
    exact ⟨ret_int HC.out.symm, ((Below.refl w.heap.size w).alloc (Nat.le_refl _) _).alloc (by simp) _⟩
theorem check_any (w : World) (M : Nat → Prop) (d : DiskD) (v : Value) (h : IsDisk w M v d) :
    Calls Try.prog 31 #[v] w fun e w' => e = .returned (.int .i64 (chk d)) ∧ Below w.heap.size w w' := by
  by_cases hh : headOk d = true
  · exact check_head w M d v h hh
  · exact check_nohead w M d v h (by simpa using hh)
end Go.Proofs.Ytocjhepiooljpaa
namespace Go.Proofs.Ytocjhepiooljpaa
open Go.RowKit Go.Shelf

def zeroD : DiskD := ⟨[], [], 0, false⟩
def runsB (d : DiskD) : Bool := okB d && !d.stopped
def hasB (d : DiskD) (at_ : Int) : Bool := decide (0 ≤ at_) && decide (at_ < d.sectors.length)
def restartD (d : DiskD) : DiskD := ⟨d.sectors, [], -1, false⟩
def stopD (d : DiskD) (left : Int) : DiskD × Int := if runsB d then (if 0 ≤ left ∧ left ≤ 65536 then (⟨d.sectors, d.pending, left, d.stopped⟩, 0) else (zeroD, 1)) else (zeroD, 340)

def RetDisk (w : World) (M : Nat → Prop) (d : DiskD) (e : Ending) (w' : World) : Prop := ∃ v, e = .returned v ∧ IsDisk w' M v d ∧ Below w.heap.size w w'
def RetDiskE (w : World) (M : Nat → Prop) (r : DiskD × Int) (e : Ending) (w' : World) : Prop := ∃ v, e = .returned (.tuple #[v, .int .i64 r.2]) ∧ IsDisk w' M v r.1 ∧ Below w.heap.size w w'

theorem chk_of {d : DiskD} (h : okB d = true) : chk d = 0 := by simp [chk, h]
theorem chk_not {d : DiskD} (h : okB d = false) : chk d = 340 := by simp [chk, h]
theorem IsWrs.nil {w : World} {M : Nat → Prop} : IsWrs w M (.slice none 0 0) [] := ⟨none, 0, rfl, Nat.le_refl _, by omega, fun _ => .nilIface, fun h => absurd h (by simp), fun i h => absurd h (by simp)⟩
theorem IsMat.nil {w : World} {M : Nat → Prop} : IsMat w M (.slice none 0 0) [] := ⟨none, 0, rfl, Nat.le_refl _, by omega, fun _ => .nilIface, fun h => absurd h (by simp), fun i h => absurd h (by simp)⟩
theorem IsDisk.zero {w : World} {M : Nat → Prop} : IsDisk w M (.agg #[.slice none 0 0, .slice none 0 0, .int .i64 0, .bool false]) zeroD := ⟨_, _, rfl, IsMat.nil, IsWrs.nil⟩

set_option maxHeartbeats 400000 in
theorem runs_any (w : World) (M : Nat → Prop) (d : DiskD) (v : Value) (h : IsDisk w M v d) :
    Calls Try.prog 50 #[v] w fun e w' => e = .returned (.bool (runsB d)) ∧ Below w.heap.size w w' := by
  obtain ⟨sA, sc, pA, pc, rfl, _⟩ := h.parts
  obtain ⟨W1, hW1⟩ : ∃ W1, W1 = w.alloc (.cells #[.slice sA d.sectors.length sc, .slice pA d.pending.length pc, .int .i64 d.left, .bool d.stopped] 25) := ⟨_, rfl⟩
  have hB1 : Below w.heap.size w W1 := by rw [hW1]; exact (Below.refl w.heap.size w).alloc (Nat.le_refl _) _
  have C := Lib.hid (check_any W1 M d _ (h.below hB1))
  have HW := Lib.hid hW1
  have HB := Lib.hid hB1
  clear hB1 h
  go_enter Try.func50, Try.ntmps50
  go_wp2_with fail
  rw [← HW.out]
  refine C.out.mono ?_
  rintro e w1 ⟨rfl, hb1⟩
  have c3 := hb1.cell (p := ⟨w.heap.size, 3, none⟩) (by rw [HW.out]; simp)
  rw [HW.out] at c3
  simp at c3
  have HF := Lib.hid (HB.out.trans (hb1.mono HB.out.size))
  clear hb1
  by_cases ho : okB d = true
  · rw [chk_of ho]
    have HR := Lib.hid (show runsB d = !d.stopped by simp [runsB, ho])
    clear ho
    go_wp2_with fail
    go_ret
    exact ⟨ret_bool HR.out.symm, HF.out⟩
  · have ho' : okB d = false := by simpa using ho
    rw [chk_not ho']
    have HR := Lib.hid (show runsB d = false by simp [runsB, ho'])
    clear ho ho'
    go_wp2_with fail
    go_ret
    exact ⟨ret_bool HR.out.symm, HF.out⟩

set_option maxHeartbeats 400000 in
theorem has_any (w : World) (M : Nat → Prop) (d : DiskD) (v : Value) (h : IsDisk w M v d) (x : Int) :
    Calls Try.prog 51 #[v, .int .i64 x] w fun e w' => e = .returned (.bool (hasB d x)) ∧ Below w.heap.size w w' := by
  obtain ⟨sA, sc, pA, pc, rfl, _⟩ := h.parts
  clear h
  by_cases hx : 0 ≤ x
  · go_enter Try.func51, Try.ntmps51
    go_wp2_with fail
    go_ret
    exact ⟨ret_bool (by simp [hasB, hx]), (Below.refl w.heap.size w).alloc (Nat.le_refl _) _⟩
  · go_enter Try.func51, Try.ntmps51
    go_wp2_with fail
    go_ret
    exact ⟨ret_bool (by simp [hasB]; omega), (Below.refl w.heap.size w).alloc (Nat.le_refl _) _⟩

theorem RetDisk.mk {w w' : World} {M : Nat → Prop} {v : Value} {d : DiskD} (hd : IsDisk w M v d) (hb : Below w.heap.size w w') : RetDisk w M d (.returned v) w' := ⟨v, rfl, hd.below hb, hb⟩
theorem RetDiskE.mk {w w' : World} {M : Nat → Prop} {v : Value} {r : DiskD × Int} {d : DiskD} {n : Int} (hd : IsDisk w M v d) (hb : Below w.heap.size w w') (hr : r = (d, n)) : RetDiskE w M r (.returned (.tuple #[v, .int .i64 n])) w' := by
  subst hr; exact ⟨v, rfl, hd.below hb, hb⟩
theorem RetDiskE.mk' {w w' : World} {M : Nat → Prop} {v : Value} {r : DiskD × Int} {d : DiskD} {n : Int} (hd : IsDisk w' M v d) (hb : Below w.heap.size w w') (hr : r = (d, n)) : RetDiskE w M r (.returned (.tuple #[v, .int .i64 n])) w' := by
  subst hr; exact ⟨v, rfl, hd, hb⟩
theorem heap1_0 (w : World) (o : Obj) : (w.alloc o).heap[w.heap.size]? = some o := heap_alloc_new w o
theorem heap2_0 (w : World) (o1 o2 : Obj) : ((w.alloc o1).alloc o2).heap[w.heap.size]? = some o1 := (Below.heap_alloc (w.alloc o1) o2 w.heap.size (by simp)).trans (heap_alloc_new w o1)
theorem heap2_1 (w : World) (o1 o2 : Obj) : ((w.alloc o1).alloc o2).heap[w.heap.size + 1]? = some o2 := by
  have := heap_alloc_new (w.alloc o1) o2
  rwa [World.size_alloc] at this
theorem blk4 {W w1 : World} {B g : Nat} {a b c d : Value} {t : TypeId} (hb : Below B W w1) (hW : W.heap[g]? = some (.cells #[a, b, c, d] t (0, 0))) (hg : g < B) :
    (w1.cell? ⟨g, 0, none⟩ = some a ∧ w1.cell? ⟨g, 1, none⟩ = some b ∧ w1.cell? ⟨g, 2, none⟩ = some c ∧ w1.cell? ⟨g, 3, none⟩ = some d) ∧
    (w1.frozen? ⟨g, 0, none⟩ = false ∧ w1.frozen? ⟨g, 1, none⟩ = false ∧ w1.frozen? ⟨g, 2, none⟩ = false ∧ w1.frozen? ⟨g, 3, none⟩ = false) := by
  have h := (hb.block g hg).trans hW
  simp [World.cell?, World.frozen?, h]

set_option maxHeartbeats 400000 in
theorem restart_any (w : World) (M : Nat → Prop) (d : DiskD) (v : Value) (h : IsDisk w M v d) :
    Calls Try.prog 30 #[v] w (RetDisk w M (restartD d)) := by
  obtain ⟨sA, sc, pA, pc, rfl, hs1, hs2, hs3, _⟩ := h.parts
  clear h
  go_enter Try.func30, Try.ntmps30
  go_wp2_with fail
  exact bodyPost_ret (v := .agg #[.slice sA d.sectors.length sc, .slice none 0 0, .int .i64 (-1), .bool false]) (by simp [results, Try.results30, go_sem]) rfl (RetDisk.mk ⟨_, _, rfl, ⟨sA, sc, rfl, hs1, hs2, hs3⟩, IsWrs.nil⟩
    (((Below.refl w.heap.size w).alloc (Nat.le_refl _) _).alloc (by simp) _))

set_option maxHeartbeats 400000 in
theorem stop_any (w : World) (M : Nat → Prop) (d : DiskD) (v : Value) (h : IsDisk w M v d) (x : Int) :
    Calls Try.prog 29 #[v, .int .i64 x] w (RetDiskE w M (stopD d x)) := by
  obtain ⟨sA, sc, pA, pc, rfl, hs1, hs2, hs3, hp1, hp2, hp3⟩ := h.parts
  obtain ⟨W1, hW1⟩ : ∃ W1, W1 = (w.alloc (.cells #[.slice sA d.sectors.length sc, .slice pA d.pending.length pc, .int .i64 d.left, .bool d.stopped] 25)).alloc (.cells #[.slice none 0 0, .slice none 0 0, .int .i64 0, .bool false] 25) := ⟨_, rfl⟩
  have hB1 : Below w.heap.size w W1 := by rw [hW1]; exact ((Below.refl w.heap.size w).alloc (Nat.le_refl _) _).alloc (by simp) _
  have hz : W1.heap.size = w.heap.size + 2 := by rw [hW1]; simp
  have k0 : W1.heap[w.heap.size]? = some (.cells #[.slice sA d.sectors.length sc, .slice pA d.pending.length pc, .int .i64 d.left, .bool d.stopped] 25 (0, 0)) := by rw [hW1]; exact heap2_0 _ _ _
  have k1 : W1.heap[w.heap.size + 1]? = some (.cells #[.slice none 0 0, .slice none 0 0, .int .i64 0, .bool false] 25 (0, 0)) := by rw [hW1]; exact heap2_1 _ _ _
  have C := Lib.hid (runs_any W1 M d _ (h.below hB1))
  have HW := Lib.hid hW1
  have HB := Lib.hid hB1
  have HZ := Lib.hid hz
  have HK0 := Lib.hid k0
  have HK1 := Lib.hid k1
  clear hB1 h hz k0 k1
  go_enter Try.func29, Try.ntmps29
  go_wp2_with fail
  rw [← HW.out]
  refine C.out.mono ?_
  rintro e w1 ⟨rfl, hb1⟩
  obtain ⟨⟨c0, c1, c2, c3⟩, ⟨f0, f1, f2, f3⟩⟩ := blk4 hb1 HK0.out (by rw [HZ.out]; omega)
  obtain ⟨⟨r0, r1, r2, r3⟩, ⟨q0, q1, q2, q3⟩⟩ := blk4 hb1 HK1.out (by rw [HZ.out]; omega)
  have hsz := hb1.size
  rw [HZ.out] at hsz
  have HF := Lib.hid (HB.out.trans (hb1.mono HB.out.size))
  clear hb1
  by_cases hr : runsB d = true
  · rw [hr]
    by_cases hx : 0 ≤ x ∧ x ≤ 65536
    · have HS := Lib.hid (show stopD d x = (⟨d.sectors, d.pending, x, d.stopped⟩, 0) by simp only [stopD, hr, if_true, if_pos hx])
      obtain ⟨hx1, hx2⟩ := hx
      clear hr
      go_wp2_with fail
      refine bodyPost_ret (v := .tuple #[.agg #[.slice sA d.sectors.length sc, .slice pA d.pending.length pc, .int .i64 x, .bool d.stopped], .int .i64 0]) (by simp [results, Try.results29, go_sem, r0, r1, r2, r3]) rfl (RetDiskE.mk (d := ⟨d.sectors, d.pending, x, d.stopped⟩) ⟨_, _, rfl, ⟨sA, sc, rfl, hs1, hs2, hs3⟩, ⟨pA, pc, rfl, hp1, hp2, hp3⟩⟩ ?_ HS.out)
      refine Below.setCell (Below.setCell (Below.setCell (Below.setCell (Below.setCell HF.out ?_ _) ?_ _) ?_ _) ?_ _) ?_ _ <;> simp
    · have HS := Lib.hid (show stopD d x = (zeroD, 1) by simp only [stopD, hr, if_true, if_neg hx])
      have hx' : x < 0 ∨ (0 ≤ x ∧ 65536 < x) := by omega
      clear hr hx
      rcases hx' with hx | ⟨hx1, hx⟩
      all_goals
        go_wp2_with fail
        refine bodyPost_ret (v := .tuple #[.agg #[.slice none 0 0, .slice none 0 0, .int .i64 0, .bool false], .int .i64 1]) (by simp [results, Try.results29, go_sem, r0, r1, r2, r3]) rfl (RetDiskE.mk IsDisk.zero ?_ HS.out)
        refine Below.setCell (Below.setCell (Below.setCell (Below.setCell HF.out ?_ _) ?_ _) ?_ _) ?_ _ <;> simp
  · have hr' : runsB d = false := by simpa using hr
    rw [hr']
    have HS := Lib.hid (show stopD d x = (zeroD, 340) by simp [stopD, hr'])
    clear hr hr'
    go_wp2_with fail
    refine bodyPost_ret (v := .tuple #[.agg #[.slice none 0 0, .slice none 0 0, .int .i64 0, .bool false], .int .i64 340]) (by simp [results, Try.results29, go_sem, r0, r1, r2, r3]) rfl (RetDiskE.mk IsDisk.zero ?_ HS.out)
    refine Below.setCell (Below.setCell (Below.setCell (Below.setCell HF.out ?_ _) ?_ _) ?_ _) ?_ _ <;> simp
end Go.Proofs.Ytocjhepiooljpaa
namespace Go.Proofs.Ytocjhepiooljpaa
open Go.RowKit Go.Shelf

/- clones -/
/-- the cells of n elements of sz cells, one behind the other -/
def flat (sz n : Nat) (f : Nat → Nat → Value) : List Value := (List.range (n * sz)).map fun j => f (j / sz) (j % sz)
theorem flat_length (sz n : Nat) (f : Nat → Nat → Value) : (flat sz n f).length = n * sz := by simp [flat]
theorem flat_get {sz n j : Nat} {f : Nat → Nat → Value} {u : Value} (h : (flat sz n f)[j]? = some u) : j < n * sz ∧ u = f (j / sz) (j % sz) := by
  unfold flat at h
  rw [List.getElem?_map] at h
  rcases Nat.lt_or_ge j (n * sz) with hl | hl
  · rw [List.getElem?_range hl] at h
    exact ⟨hl, by simpa using h.symm⟩
  · rw [List.getElem?_eq_none (by simpa using hl)] at h
    cases h
theorem Cells.flat {w : World} {M : Nat → Prop} {sz n : Nat} {A : Option Addr} {f : Nat → Nat → Value} (h : Cells w M sz A n f) (hn : 0 < n) (hsz : 0 < sz) :
    ∃ ad, A = some ad ∧ ∀ j u, (flat sz n f)[j]? = some u → w.cell? (ad.add j) = some u := by
  obtain ⟨b, off, e, _, hc⟩ := h hn
  refine ⟨_, e, fun j u hu => ?_⟩
  obtain ⟨hl, rfl⟩ := flat_get hu
  have h1 := hc (j / sz) (j % sz) ((Nat.div_lt_iff_lt_mul hsz).2 hl) (Nat.mod_lt _ hsz)
  rw [Nat.add_assoc, Nat.mul_comm, Nat.div_add_mod] at h1
  rw [← h1]
  unfold Addr.add
  split
  · subst_vars; rfl
  · rfl

def RetOwn (w : World) (e : TypeId) (sz n : Nat) (xs : List Value) (en : Ending) (w' : World) : Prop := ∃ v, en = .returned v ∧ w'.ownsRow w.heap.size e sz v n xs ∧ Below w.heap.size w w'

theorem Try.infoSl : (Try.prog.info? 35).map (fun i => (i.zero, i.size, i.bytes)) = some (some (.slice none 0 0), 1, 24) := by kernel_rfl
theorem Try.infoWr : (Try.prog.info? 76).map (fun i => (i.zero, i.size, i.bytes)) = some (some (.agg #[.int .i64 0, .slice none 0 0]), 2, 32) := by kernel_rfl

theorem cells_alloc {w : World} {M : Nat → Prop} {sz n : Nat} {ad : Addr} {f : Nat → Nat → Value} (hc : Cells w M sz (some ad) n f) (hsz : 0 < sz) (o : Obj) :
    ∀ j u, (flat sz n f)[j]? = some u → (w.alloc o).cell? (ad.add j) = some u := by
  intro j u hu
  obtain ⟨hl, _⟩ := flat_get hu
  have hn : 0 < n := by
    rcases Nat.eq_zero_or_pos n with h | h
    · subst h; omega
    · exact h
  obtain ⟨ad', e, hh⟩ := hc.flat hn hsz
  obtain rfl : ad = ad' := by injection e
  have := hh j u hu
  rw [World.cell?_alloc_lt _ _ _ (lt_of_cell this)]
  exact this

set_option maxHeartbeats 400000 in
theorem cloneMat_any (w : World) (M : Nat → Prop) (A : Option Addr) (n c : Nat) (f : Nat → Nat → Value) (hn : n * 24 ≤ 140737488355328) (hA : A = none → n = 0) (hc : Cells w M 1 A n f) (h1 : ∀ u ∈ flat 1 n f, u.oneCell' = true) :
    Calls Try.prog 69 #[.slice A n c] w (RetOwn w 35 1 n (flat 1 n f)) := by
  obtain ⟨i0, hi, hz0, hz1, hz2⟩ := info_parts Try.infoSl
  have hnil := fun w => Lib.run_eql_slice_nil (P := Try.prog) w 22 35 A n c 0 0 Try.underlying22
  cases A with
  | none =>
    obtain rfl := hA rfl
    clear hA hc h1
    go_enter Try.func69, Try.ntmps69
    go_wp2_with fail
    go_ret
    exact ⟨_, rfl, World.ownsRow_nil _ _ _ _, Below.refl _ _⟩
  | some ad =>
    have HK := Lib.hid (cells_alloc hc (by omega) (.cells #[] 35))
    have H1 := Lib.hid h1
    clear hc h1 hA
    go_enter Try.func69, Try.ntmps69
    go_wp2_with (at_builtin; refine wpList_append_own _ rfl _ _ 22 rfl w.heap.size 35 i0 (.slice none 0 0) 1 24 Try.underlying22 hi hz0 hz1 hz2 rfl (by decide) _ 0 [] rfl ?own ad n c (flat 1 n f) rfl ?hl ?c1 ?c2 ?c3 ?c4 ?c5 ?_)
    case own => exact World.ownsRow_made _ _ _ (Nat.le_refl _) (by unfold maxLen; omega) (by simp)
    case hl => exact flat_length _ _ _
    case c1 => exact HK.out
    case c2 => exact H1.out
    case c3 => unfold maxLen; omega
    case c4 => omega
    case c5 => simp
    intro v' w1 hown hgrow _
    go_wp2_with fail
    go_ret
    refine ⟨_, rfl, by simpa using hown, ?_⟩
    exact (((Below.refl w.heap.size w).alloc (Nat.le_refl _) _)).grown hgrow (by simp) (fun k e => by simp [Value.ownBlock] at e; omega)

set_option maxHeartbeats 400000 in
theorem cloneWrs_any (w : World) (M : Nat → Prop) (A : Option Addr) (n c : Nat) (f : Nat → Nat → Value) (hn : n * 32 ≤ 140737488355328) (hA : A = none → n = 0) (hc : Cells w M 2 A n f) (h1 : ∀ u ∈ flat 2 n f, u.oneCell' = true) :
    Calls Try.prog 53 #[.slice A n c] w (RetOwn w 76 2 n (flat 2 n f)) := by
  obtain ⟨i0, hi, hz0, hz1, hz2⟩ := info_parts Try.infoWr
  have hnil := fun w => Lib.run_eql_slice_nil (P := Try.prog) w 23 76 A n c 0 0 Try.underlying23
  cases A with
  | none =>
    obtain rfl := hA rfl
    clear hA hc h1
    go_enter Try.func53, Try.ntmps53
    go_wp2_with fail
    go_ret
    exact ⟨_, rfl, World.ownsRow_nil _ _ _ _, Below.refl _ _⟩
  | some ad =>
    have HK := Lib.hid (cells_alloc hc (by omega) (.cells #[] 76))
    have H1 := Lib.hid h1
    clear hc h1 hA
    go_enter Try.func53, Try.ntmps53
    go_wp2_with (at_builtin; refine wpList_append_own _ rfl _ _ 23 rfl w.heap.size 76 i0 (.agg #[.int .i64 0, .slice none 0 0]) 2 32 Try.underlying23 hi hz0 hz1 hz2 rfl (by decide) _ 0 [] rfl ?own ad n c (flat 2 n f) rfl ?hl ?c1 ?c2 ?c3 ?c4 ?c5 ?_)
    case own => exact World.ownsRow_made _ _ _ (Nat.le_refl _) (by unfold maxLen; omega) (by simp)
    case hl => exact flat_length _ _ _
    case c1 => exact HK.out
    case c2 => exact H1.out
    case c3 => unfold maxLen; omega
    case c4 => omega
    case c5 => simp
    intro v' w1 hown hgrow _
    go_wp2_with fail
    go_ret
    refine ⟨_, rfl, by simpa using hown, ?_⟩
    exact (((Below.refl w.heap.size w).alloc (Nat.le_refl _) _)).grown hgrow (by simp) (fun k e => by simp [Value.ownBlock] at e; omega)
end Go.Proofs.Ytocjhepiooljpaa
namespace Go.Proofs.Ytocjhepiooljpaa
open Go.RowKit Go.Shelf

def performD (ss : List (List UInt8)) (ps : List Wr) : List (List UInt8) := ps.foldl (fun s x => s.set x.pos.toNat x.data) ss
theorem performD_length (ss : List (List UInt8)) (ps : List Wr) : (performD ss ps).length = ss.length := by
  unfold performD
  induction ps generalizing ss with
  | nil => rfl
  | cons x r ih => rw [List.foldl_cons, ih]; simp
theorem performD_snoc (ss : List (List UInt8)) (ps : List Wr) (k : Nat) (h : k < ps.length) : performD ss (ps.take (k + 1)) = (performD ss (ps.take k)).set (ps[k]).pos.toNat (ps[k]).data := by
  unfold performD
  rw [List.take_succ_eq_append_getElem h, List.foldl_append]
  rfl

/-- the values read as the byte lists -/
def Good (w : World) (M : Nat → Prop) (vals : List Value) (ss : List (List UInt8)) : Prop := vals.length = ss.length ∧ ∀ i, i < ss.length → IsBytes w M (vals.getD i .nilIface) (ss.getD i [])
theorem Good.set {w : World} {M : Nat → Prop} {vals : List Value} {ss : List (List UInt8)} {i : Nat} {u : Value} {s : List UInt8} (h : Good w M vals ss) (hu : IsBytes w M u s) : Good w M (vals.set i u) (ss.set i s) := by
  refine ⟨by simpa using h.1, fun j hj => ?_⟩
  simp only [List.length_set] at hj
  have hv := h.1
  by_cases e : i = j
  · subst e
    simpa [List.getD_eq_getElem?_getD, List.getElem?_set, hj, hv] using hu
  · simpa [List.getD_eq_getElem?_getD, List.getElem?_set, e] using h.2 j hj
theorem Good.of_vs {w : World} {M : Nat → Prop} {vs : Nat → Value} {ss : List (List UInt8)} (h : ∀ i, i < ss.length → IsBytes w M (vs i) (ss.getD i [])) : Good w M (flat 1 ss.length (fun i _ => vs i)) ss := by
  refine ⟨by rw [flat_length, Nat.mul_one], fun i hi => ?_⟩
  have : (flat 1 ss.length (fun i _ => vs i)).getD i .nilIface = vs i := by
    simp [flat, List.getD_eq_getElem?_getD, hi]
  rw [this]
  exact h i hi
theorem own_cells1 {w : World} {base : Nat} {e : TypeId} {v : Value} {n : Nat} {xs : List Value} (h : w.ownsRow base e 1 v n xs) :
    ∃ A c, v = .slice A n c ∧ n ≤ c ∧ c ≤ 9223372036854775807 ∧ Cells w (fun b => base ≤ b) 1 A n (fun i _ => xs.getD i .nilIface) := by
  rcases h.2 with ⟨rfl, rfl⟩ | ⟨g, cap, cur, rfl, hg, hh, h1, h2, h3, h4⟩
  · exact ⟨none, 0, rfl, Nat.le_refl _, by omega, fun h => absurd h (by omega)⟩
  · refine ⟨_, cap, rfl, h1, by simpa [maxLen] using h2, fun hn => ⟨g, 0, rfl, hg, fun i j hi hj => ?_⟩⟩
    obtain rfl : j = 0 := by omega
    have := h.cellAt i (by omega)
    have hl := h.1
    simp only [Nat.zero_add, Nat.mul_one, Nat.add_zero]
    rw [this, List.getElem?_eq_getElem (by omega)]
    simp [List.getD_eq_getElem?_getD, (by omega : i < xs.length)]
def RetMat (w : World) (M : Nat → Prop) (ss : List (List UInt8)) (e : Ending) (w' : World) : Prop := ∃ v, e = .returned v ∧ IsMat w' (fun b => M b ∨ w.heap.size ≤ b) v ss ∧ Below w.heap.size w w'
theorem RetMat.of_own {w w' : World} {M : Nat → Prop} {v : Value} {n : Nat} {vals : List Value} {ss : List (List UInt8)} {e : TypeId} (hown : w'.ownsRow w.heap.size e 1 v n vals) (hn : n = ss.length) (hg : Good w M vals ss) (hb : Below w.heap.size w w') :
    RetMat w M ss (.returned v) w' := by
  subst hn
  obtain ⟨A, c, rfl, h1, h2, h3⟩ := own_cells1 hown
  exact ⟨_, rfl, ⟨A, c, rfl, h1, h2, _, h3.mono (fun b _ h => .inr h) (by omega), fun i hi => ((hg.2 i hi).below hb).mono fun b _ h => .inl h⟩, hb⟩

theorem one_of_bytes {w : World} {M : Nat → Prop} {v : Value} {bs : List UInt8} (h : IsBytes w M v bs) : v.oneCell' = true := by
  obtain ⟨A, c, rfl, _⟩ := h; rfl

set_option maxHeartbeats 800000 in
theorem perform_any (w : World) (M : Nat → Prop) (sA pA : Option Addr) (sc pc : Nat) (ss : List (List UInt8)) (ps : List Wr) (hs : ss.length ≤ 4096) (_hs1 : ss.length ≤ sc) (hsm : MatC w M sA ss)
    (hp : ps.length ≤ 9223372036854775807) (hpm : WrsC w M pA ps) (hok : ∀ (j : Nat) (h : j < ps.length), 0 ≤ (ps[j]).pos ∧ (ps[j]).pos < ss.length) :
    Calls Try.prog 54 #[.slice sA ss.length sc, .slice pA ps.length pc] w (RetMat w M (performD ss ps)) := by
  obtain ⟨vs, hc, hvs⟩ := hsm
  have hA : sA = none → ss.length = 0 := fun e => by
    rcases Nat.eq_zero_or_pos ss.length with h | h
    · exact h
    · obtain ⟨b, off, e', _⟩ := hc h; rw [e] at e'; cases e'
  have C := Lib.hid (cloneMat_any w M sA ss.length sc _ (by omega) hA hc (fun u hu => by
    obtain ⟨j, hj⟩ := List.getElem?_of_mem hu
    obtain ⟨hl, rfl⟩ := flat_get hj
    simp only [Nat.mul_one] at hl
    simp only [Nat.div_one]
    exact one_of_bytes (hvs j hl)))
  have HG := Lib.hid (Good.of_vs hvs)
  have HOK := Lib.hid hok
  clear hc hvs hA hok
  go_enter Try.func54, Try.ntmps54
  go_wp2_with fail
  refine C.out.mono ?_
  rintro e w1 ⟨v, rfl, hown, hb1⟩
  go_wp2_with fail
  go_loopw [12] (fun i wr => ∃ (k : Nat) (vals : List Value), k ≤ ps.length ∧ i = .int .i64 k ∧ wr.ownsRow w.heap.size 35 1 v ss.length vals ∧ Good w M vals (performD ss (ps.take k)) ∧ Below w.heap.size w wr) (fun i _ => ps.length - (intOf i).toNat)
  case atStart => exact ⟨0, _, Nat.zero_le _, rfl, hown, HG.out, hb1⟩
  case round =>
    obtain ⟨k, vals, hk, rfl, hown1, hgood, hbel⟩ := hrel
    clear hown hb1
    by_cases hlt : k < ps.length
    · obtain ⟨b, off, bA, bc, rfl, hbl, hck, hck1, hd1, hd2, hd3⟩ := hpm.at_ hbel hlt
      obtain ⟨q1, q2⟩ := HOK.out k hlt
      obtain ⟨g, cap, rfl, hgl, hgs⟩ := hown1.form (by omega)
      have hvl : (ps[k]).pos.toNat < vals.length := by have := hown1.1; omega
      obtain ⟨x, hx⟩ : ∃ x, vals[(ps[k]).pos.toNat]? = some x := ⟨vals[(ps[k]).pos.toNat], List.getElem?_eq_getElem hvl⟩
      have hcl := (hown1.cellAt (ps[k]).pos.toNat (by omega)).trans hx
      have hfr := hown1.frozenAt (ps[k]).pos.toNat
      have hsz := hbel.size
      have hnn : ((ps[k]).pos.toNat : Int) = (ps[k]).pos := by omega
      have HO := Lib.hid hown1
      have HG1 := Lib.hid hgood
      have HB := Lib.hid hbel
      have HN := Lib.hid hnn
      clear hown1 hgood hbel hx hnn
      go_wp2_with fail
      go_roundw
      case rel =>
        refine ⟨k + 1, vals.set (ps[k]).pos.toNat (.slice bA (ps[k]).data.length bc), by omega, by go_num, ?_, ?_, ?_⟩
        · exact ((HO.out.stored _ _).1).alloc _
        · rw [performD_snoc _ _ _ hlt]
          exact HG1.out.set ⟨bA, bc, rfl, hd1, hd2, hd3⟩
        · exact (HB.out.setCell (p := ⟨g, _, none⟩) hgl _).alloc (by simp [World.setCell]; omega) _
      case measure => simp [intOf]; omega
    · go_wp2_with fail
      go_ret
      obtain rfl : k = ps.length := by omega
      rw [List.take_length] at hgood
      exact RetMat.of_own hown1 (performD_length _ _).symm hgood hbel

def syncD (d : DiskD) : DiskD × Int :=
  if runsB d then
    if 0 ≤ d.left ∧ d.left < d.pending.length then (⟨performD d.sectors (d.pending.take d.left.toNat), [], 0, true⟩, 340)
    else (⟨performD d.sectors d.pending, [], if 0 ≤ d.left then d.left - d.pending.length else d.left, false⟩, 0)
  else (zeroD, 340)
theorem runs_parts {d : DiskD} (h : runsB d = true) : d.stopped = false ∧ 1 ≤ d.sectors.length ∧ d.sectors.length ≤ 4096 ∧ d.pending.length ≤ 4096 ∧ -1 ≤ d.left ∧ d.left ≤ 65536 ∧
    (∀ (j : Nat) (h : j < d.pending.length), 0 ≤ (d.pending[j]).pos ∧ (d.pending[j]).pos < d.sectors.length) := by
  simp only [runsB, okB, headOk, Bool.and_eq_true, decide_eq_true_eq, List.all_eq_true, Bool.not_eq_true'] at h
  obtain ⟨⟨⟨⟨⟨⟨⟨h1, h2⟩, h3⟩, h4⟩, h5⟩, h6⟩, h7⟩, h8⟩ := h
  refine ⟨h8, h1, h2, h3, h4, h5, fun j hj => ?_⟩
  have := h7 _ (List.getElem_mem hj)
  simp only [penOk, Bool.and_eq_true, decide_eq_true_eq] at this
  exact this.1
theorem WrsC.take {w : World} {M : Nat → Prop} {A : Option Addr} {ps : List Wr} (h : WrsC w M A ps) (k : Nat) : WrsC w M A (ps.take k) := by
  obtain ⟨vs, h1, h2⟩ := h
  refine ⟨vs, fun hn => ?_, fun i hi => ?_⟩
  · have hl : (ps.take k).length ≤ ps.length := List.length_take_le' _ _
    obtain ⟨b, off, e, hm, hc⟩ := h1 (by omega)
    refine ⟨b, off, e, hm, fun i j hi hj => ?_⟩
    rw [hc i j (by omega) hj]
    have : i < k := by simp at hi; omega
    simp [List.getD_eq_getElem?_getD, this]
  · have hl : (ps.take k).length ≤ ps.length := List.length_take_le' _ _
    have : i < k := by simp at hi; omega
    have := h2 i (by omega)
    simpa [List.getD_eq_getElem?_getD, List.getElem?_take, ‹i < k›] using this
end Go.Proofs.Ytocjhepiooljpaa
