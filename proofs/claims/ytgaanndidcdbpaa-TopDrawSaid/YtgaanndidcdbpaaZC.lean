import Derived.Test.YtgaanndidcdbpaaGen
import Derived.Shelf.Abstract
import Derived.Test.YtgaanndidcdbpaaZB
import Derived.OwnWalk
namespace Go.Proofs.Ytgaanndidcdbpaa
open Go.RowKit Go.Shelf

def idxF (p : Nat → Bool) (n : Nat) : Int := match (List.range n).find? p with | some i => i | none => -1
theorem idxF_none {p : Nat → Bool} {n : Nat} (h : ∀ j, j < n → p j = false) : idxF p n = -1 := by
  have : (List.range n).find? p = none := by rw [List.find?_eq_none]; intro x hx; simp [h x (List.mem_range.1 hx)]
  simp [idxF, this]
theorem idxF_some {p : Nat → Bool} {n k : Nat} (hk : k < n) (hp : p k = true) (h : ∀ j, j < k → p j = false) : idxF p n = k := by
  have : (List.range n).find? p = some k := by
    rw [List.find?_range_eq_some]; exact ⟨hp, by simpa using hk, fun j hj => by simp [h j hj]⟩
  simp [idxF, this]
theorem idxF_any (p : Nat → Bool) (n : Nat) : decide (0 ≤ idxF p n) = (List.range n).any p := by
  unfold idxF
  cases h : (List.range n).find? p with
  | none => 
    rw [List.find?_eq_none] at h
    have : (List.range n).any p = false := by rw [List.any_eq_false]; exact h
    simp [this]
  | some i =>
    have := List.find?_some h
    have hm := List.mem_of_find?_eq_some h
    have : (List.range n).any p = true := by rw [List.any_eq_true]; exact ⟨i, hm, this⟩
    simp [this]
def noneTo (p : Nat → Bool) (k : Nat) : Prop := ∀ j, j < k → p j = false
theorem noneTo_succ {p : Nat → Bool} {k : Nat} (h : noneTo p k) (hp : p k = false) : noneTo p (k + 1) := fun j hj => by
  rcases Nat.lt_or_ge j k with h1 | h1
  · exact h j h1
  · obtain rfl : j = k := by omega
    exact hp
/-- the predicate g with what it has captured answers p at each element -/
def Pred2 (P : Program) (w : World) (g : FuncId) (cap : Array Value) (n : Nat) (f : Nat → Nat → Value) (p : Nat → Bool) : Prop :=
  ∀ i, i < n → ∀ wr, Below w.heap.size w wr → Calls P g (#[.agg #[f i 0, f i 1]] ++ cap) wr fun e w' => e = .returned (.bool (p i)) ∧ Below wr.heap.size wr w'
def Pred1 (P : Program) (w : World) (g : FuncId) (cap : Array Value) (n : Nat) (f : Nat → Nat → Value) (p : Nat → Bool) : Prop :=
  ∀ i, i < n → ∀ wr, Below w.heap.size w wr → Calls P g (#[f i 0] ++ cap) wr fun e w' => e = .returned (.bool (p i)) ∧ Below wr.heap.size wr w'

set_option maxHeartbeats 400000 in
theorem indexFunc2_any (w : World) (M : Nat → Prop) (A : Option Addr) (n c : Nat) (f : Nat → Nat → Value) (hn : n ≤ 140737488355328) (hc : Cells w M 2 A n f) (g : FuncId) (cap : Array Value) (p : Nat → Bool) (hg : Enters Try.prog g) (hp : Pred2 Try.prog w g cap n f p) :
    Calls Try.prog 103 #[.slice A n c, .func (.func g) #[] cap] w fun e w' => e = .returned (.int .i64 (idxF p n)) ∧ Below w.heap.size w w' := by
  go_enter Try.func103, Try.ntmps103
  go_wp2
  go_loopw [8] (fun i wr => ∃ k : Nat, k ≤ n ∧ i = .int .i64 k ∧ noneTo p k ∧ Below w.heap.size w wr) (fun i _ => n - (intOf i).toNat)
  case atStart => exact ⟨0, Nat.zero_le _, rfl, fun j hj => absurd hj (by omega), Below.refl _ _⟩
  case round =>
    obtain ⟨k, hk, rfl, hno, hbel⟩ := hrel
    by_cases hlt : k < n
    · obtain ⟨b, off, rfl, _, hbl, hck, hck1⟩ := hc.at2 hbel hlt
      have hg' := fun args => hg args wr
      have HP := hp k hlt wr hbel
      have HP' := Lib.hid HP
      clear HP hg
      go_wp2_with fail
      refine HP'.out.mono ?_
      rintro e w1 ⟨rfl, hb1⟩
      by_cases hpk : p k = true
      · rw [hpk]
        go_wp2_with fail
        go_ret
        exact ⟨ret_int (idxF_some hlt hpk hno).symm, hbel.trans (hb1.mono hbel.size)⟩
      · have hpf : p k = false := by simpa using hpk
        rw [hpf]
        have HN := Lib.hid (noneTo_succ hno hpf)
        clear hpf hpk
        go_wp2_with fail
        go_roundw
        case rel => exact ⟨k + 1, by omega, by go_num, HN.out, hbel.trans (hb1.mono hbel.size)⟩
        case measure => simp [intOf]; omega
    · go_wp2
      go_ret
      obtain rfl : k = n := by omega
      exact ⟨ret_int (idxF_none hno).symm, hbel⟩

set_option maxHeartbeats 400000 in
theorem containsFunc2_any (w : World) (M : Nat → Prop) (A : Option Addr) (n c : Nat) (f : Nat → Nat → Value) (hn : n ≤ 140737488355328) (hc : Cells w M 2 A n f) (g : FuncId) (cap : Array Value) (p : Nat → Bool) (hg : Enters Try.prog g) (hp : Pred2 Try.prog w g cap n f p) :
    Calls Try.prog 90 #[.slice A n c, .func (.func g) #[] cap] w fun e w' => e = .returned (.bool ((List.range n).any p)) ∧ Below w.heap.size w w' := by
  have H := Lib.hid (indexFunc2_any w M A n c f hn hc g cap p hg hp)
  clear hg hp
  go_enter Try.func90, Try.ntmps90
  go_wp2_with fail
  refine H.out.mono ?_
  rintro e w1 ⟨rfl, hb1⟩
  go_wp2_with fail
  go_ret
  exact ⟨ret_bool (idxF_any p n), hb1⟩
set_option maxHeartbeats 400000 in
theorem indexFunc1_any (w : World) (M : Nat → Prop) (A : Option Addr) (n c : Nat) (f : Nat → Nat → Value) (hn : n ≤ 140737488355328) (hc : Cells w M 1 A n f) (hsl : ∀ i, i < n → ∃ x : Int, f i 0 = .int .u64 x) (g : FuncId) (cap : Array Value) (p : Nat → Bool) (hg : Enters Try.prog g) (hp : Pred1 Try.prog w g cap n f p) :
    Calls Try.prog 95 #[.slice A n c, .func (.func g) #[] cap] w fun e w' => e = .returned (.int .i64 (idxF p n)) ∧ Below w.heap.size w w' := by
  go_enter Try.func95, Try.ntmps95
  go_wp2
  go_loopw [8] (fun i wr => ∃ k : Nat, k ≤ n ∧ i = .int .i64 k ∧ noneTo p k ∧ Below w.heap.size w wr) (fun i _ => n - (intOf i).toNat)
  case atStart => exact ⟨0, Nat.zero_le _, rfl, fun j hj => absurd hj (by omega), Below.refl _ _⟩
  case round =>
    obtain ⟨k, hk, rfl, hno, hbel⟩ := hrel
    by_cases hlt : k < n
    · obtain ⟨b, off, rfl, _, hbl, hck⟩ := hc.at1 hbel hlt
      have hg' := fun args => hg args wr
      have HP := hp k hlt wr hbel
      obtain ⟨x', hfk⟩ := hsl k hlt
      rw [hfk] at HP hck
      have HP' := Lib.hid HP
      clear HP hg hfk
      go_wp2_with fail
      refine HP'.out.mono ?_
      rintro e w1 ⟨rfl, hb1⟩
      by_cases hpk : p k = true
      · rw [hpk]
        go_wp2_with fail
        go_ret
        exact ⟨ret_int (idxF_some hlt hpk hno).symm, hbel.trans (hb1.mono hbel.size)⟩
      · have hpf : p k = false := by simpa using hpk
        rw [hpf]
        have HN := Lib.hid (noneTo_succ hno hpf)
        clear hpf hpk
        go_wp2_with fail
        go_roundw
        case rel => exact ⟨k + 1, by omega, by go_num, HN.out, hbel.trans (hb1.mono hbel.size)⟩
        case measure => simp [intOf]; omega
    · go_wp2
      go_ret
      obtain rfl : k = n := by omega
      exact ⟨ret_int (idxF_none hno).symm, hbel⟩
set_option maxHeartbeats 400000 in
theorem containsFunc1_any (w : World) (M : Nat → Prop) (A : Option Addr) (n c : Nat) (f : Nat → Nat → Value) (hn : n ≤ 140737488355328) (hc : Cells w M 1 A n f) (hsl : ∀ i, i < n → ∃ x : Int, f i 0 = .int .u64 x) (g : FuncId) (cap : Array Value) (p : Nat → Bool) (hg : Enters Try.prog g) (hp : Pred1 Try.prog w g cap n f p) :
    Calls Try.prog 58 #[.slice A n c, .func (.func g) #[] cap] w fun e w' => e = .returned (.bool ((List.range n).any p)) ∧ Below w.heap.size w w' := by
  have H := Lib.hid (indexFunc1_any w M A n c f hn hc hsl g cap p hg hp)
  clear hg hp hsl
  go_enter Try.func58, Try.ntmps58
  go_wp2_with fail
  refine H.out.mono ?_
  rintro e w1 ⟨rfl, hb1⟩
  go_wp2_with fail
  go_ret
  exact ⟨ret_bool (idxF_any p n), hb1⟩
end Go.Proofs.Ytgaanndidcdbpaa
namespace Go.Proofs.Ytgaanndidcdbpaa
open Go.RowKit Go.Shelf

/-- a slice of numbers -/
def IsU64 (w : World) (M : Nat → Prop) (v : Value) (xs : List Nat) : Prop := IsSl w M 1 v xs.length (fun i _ => .int .u64 ((xs.getD i 0 : Nat) : Int))
def U64s (xs : List Nat) : Prop := ∀ x ∈ xs, x < 18446744073709551616
theorem U64s.getD {xs : List Nat} (h : U64s xs) (i : Nat) : xs.getD i 0 < 18446744073709551616 := by
  rw [List.getD_eq_getElem?_getD]
  rcases Nat.lt_or_ge i xs.length with hi | hi
  · rw [List.getElem?_eq_getElem hi]; exact h _ (List.getElem_mem hi)
  · rw [List.getElem?_eq_none hi]; simp
theorem range_any {α : Type} (l : List α) (z : α) (p : α → Bool) : (List.range l.length).any (fun i => p (l.getD i z)) = l.any p := by
  rw [Bool.eq_iff_iff, List.any_eq_true, List.any_eq_true]
  constructor
  · rintro ⟨i, hi, h⟩
    rw [List.mem_range] at hi
    refine ⟨l.getD i z, ?_, h⟩
    simp [List.getD_eq_getElem?_getD, hi]
  · rintro ⟨x, hx, h⟩
    obtain ⟨i, hi, rfl⟩ := List.getElem_of_mem hx
    exact ⟨i, by simpa using hi, by simpa [List.getD_eq_getElem?_getD, hi] using h⟩
theorem drn_below {w w' : World} (h : ∃ n, w' = w.drewN n) : Below w.heap.size w w' := by obtain ⟨n, rfl⟩ := h; exact below_drewN (Below.refl _ _) n

set_option maxRecDepth 100000 in
theorem coef_any (c : Nat) (w : World) : Calls Try.prog 37 #[.int .u64 c] w fun e w' => e = .returned (.bool (coefOk c)) ∧ w = w' := by
  obtain ⟨b, hb⟩ : ∃ b, decide ((c : Int) < 1152921504606845789) = b := ⟨_, rfl⟩
  have hc : coefOk c = b := by rw [← hb]; exact decide_eq_decide.2 (by omega)
  rw [hc]
  clear hc
  go_enter Try.func37, Try.ntmps37
  go_wp2_with fail
  go_ret
  exact ⟨rfl, rfl⟩
set_option maxRecDepth 100000 in
theorem elem_any (c : Nat) (w : World) : Calls Try.prog 97 #[.int .u64 c] w fun e w' => e = .returned (.bool (elOk c)) ∧ ∃ n, w' = w.drewN n := by
  by_cases h1 : 1 ≤ c
  · have b1 : decide ((1 : Int) ≤ (c : Int)) = true := by simp; omega
    by_cases h2 : c < 2305843009213691579
    · have b2 : decide ((c : Int) < 2305843009213691579) = true := by simp; omega
      have C := Lib.hid (Pow_any c 1152921504606845789 (by decide) w)
      have he : elOk c = (((pw c 1152921504606845789 : Nat) : Int) == 1) := by
        unfold elOk
        rw [decide_eq_true h1, decide_eq_true h2, Bool.eq_iff_iff]
        simp
        omega
      rw [he]
      obtain ⟨z, hz⟩ : ∃ z, pw c 1152921504606845789 = z := ⟨_, rfl⟩
      rw [hz] at C ⊢
      clear h1 h2 he hz
      go_enter Try.func97, Try.ntmps97
      go_wp2_with fail
      refine C.out.mono ?_
      rintro e w' ⟨rfl, n, rfl⟩
      go_wp2_with fail
      go_ret
      exact ⟨rfl, n, rfl⟩
    · have b2 : decide ((c : Int) < 2305843009213691579) = false := by simp; omega
      have he : elOk c = false := by unfold elOk; rw [decide_eq_false h2]; simp
      rw [he]
      clear h1 h2 he
      go_enter Try.func97, Try.ntmps97
      go_wp2_with fail
      go_ret
      exact ⟨rfl, 0, rfl⟩
  · have b1 : decide ((1 : Int) ≤ (c : Int)) = false := by simp; omega
    have he : elOk c = false := by unfold elOk; rw [decide_eq_false h1]; simp
    rw [he]
    clear h1 he
    go_enter Try.func97, Try.ntmps97
    go_wp2_with fail
    go_ret
    exact ⟨rfl, 0, rfl⟩
/-- a function on a number that answers ok -/
def Asks (g : FuncId) (ok : Nat → Bool) : Prop := Enters Try.prog g ∧ ∀ x w, Calls Try.prog g #[.int .u64 (x : Nat)] w fun e w' => e = .returned (.bool (ok x)) ∧ Below w.heap.size w w'
theorem asks_coef : Asks 37 coefOk := ⟨enters_of Try.func37 (by kernel_rfl) rfl, fun x w => (coef_any x w).mono fun _ _ ⟨he, hw⟩ => ⟨he, hw ▸ Below.refl _ _⟩⟩
theorem asks_elem : Asks 97 elOk := ⟨enters_of Try.func97 (by kernel_rfl) rfl, fun x w => (elem_any x w).mono fun _ _ ⟨he, hw⟩ => ⟨he, drn_below hw⟩⟩
theorem all1_any {g : FuncId} {ok : Nat → Bool} (hg : Asks g ok) (x b : Nat) (w : World) (hb : w.cell? ⟨b, 0, none⟩ = some (.func (.func g) #[] #[])) :
    Calls Try.prog 59 #[.int .u64 x, .pointer (some ⟨b, 0, none⟩)] w fun e w' => e = .returned (.bool (!ok x)) ∧ Below w.heap.size w w' := by
  have C := Lib.hid (hg.2 x w)
  have hg' := fun args => hg.1 args w
  clear hg
  go_enter Try.func59, Try.ntmps59
  go_wp2_with fail
  refine C.out.mono ?_
  rintro e w' ⟨rfl, hb1⟩
  go_wp2_with fail
  go_ret
  exact ⟨rfl, hb1⟩
end Go.Proofs.Ytgaanndidcdbpaa
namespace Go.Proofs.Ytgaanndidcdbpaa
open Go.RowKit Go.Shelf

theorem not_any_not (ok : Nat → Bool) (l : List Nat) : (!(l.any fun x => !ok x)) = l.all ok := by
  induction l with
  | nil => rfl
  | cons a r ih => simp only [List.any_cons, List.all_cons, Bool.not_or, Bool.not_not, ih]
theorem all_any {g : FuncId} {ok : Nat → Bool} (hg : Asks g ok) (w : World) (M : Nat → Prop) (v : Value) (xs : List Nat) (h : IsU64 w M v xs) :
    Calls Try.prog 36 #[v, .func (.func g) #[] #[]] w fun e w' => e = .returned (.bool (allD ok xs)) ∧ Below w.heap.size w w' := by
  obtain ⟨A, c, rfl, h1, h2, h3⟩ := h
  by_cases hn : 1 ≤ xs.length ∧ xs.length ≤ 24
  · obtain ⟨W1, hW1⟩ : ∃ W1, W1 = w.alloc (.cells #[.func (.func g) #[] #[]] 96) := ⟨_, rfl⟩
    have hB1 : Below w.heap.size w W1 := by rw [hW1]; exact (Below.refl w.heap.size w).alloc (Nat.le_refl _) _
    have hc1 : W1.cell? ⟨w.heap.size, 0, none⟩ = some (.func (.func g) #[] #[]) := by rw [hW1]; simp
    have hz : W1.heap.size = w.heap.size + 1 := by rw [hW1]; simp
    have C1 := Lib.hid (containsFunc1_any W1 M A xs.length c _ (by omega) (h3.keep fun _ _ hp => hB1.cell hp) (fun i _ => ⟨_, rfl⟩) 59 #[.pointer (some ⟨w.heap.size, 0, none⟩)] (fun i => !ok (xs.getD i 0)) (enters_of Try.func59 (by kernel_rfl) rfl) (by
      intro i hi wr hwr
      exact all1_any hg (xs.getD i 0) w.heap.size wr ((hwr.cell (p := ⟨w.heap.size, 0, none⟩) (by simp; omega)).trans hc1)))
    rw [range_any xs 0 (fun x => !ok x)] at C1
    have he : allD ok xs = !(xs.any fun x => !ok x) := by
      rw [not_any_not]; unfold allD lenOk; rw [decide_eq_true hn.1, decide_eq_true hn.2]; rfl
    rw [he]
    have HB1 := Lib.hid hB1
    have HW1 := Lib.hid hW1
    have b1 : (1 : Int) ≤ (xs.length : Int) := by omega
    have b2 : (xs.length : Int) ≤ 24 := by omega
    clear hB1 hc1 hz hW1 he h3 hg hn
    go_enter Try.func36, Try.ntmps36
    go_wp2_with fail
    rw [← HW1.out]
    refine C1.out.mono ?_
    rintro e w1 ⟨rfl, hb1⟩
    go_wp2_with fail
    go_ret
    exact ⟨rfl, HB1.out.trans (hb1.mono HB1.out.size)⟩
  · have he : allD ok xs = false := by
      unfold allD lenOk
      rcases Nat.lt_or_ge xs.length 1 with h4 | h4
      · rw [decide_eq_false (by omega)]; rfl
      · rw [decide_eq_false (p := xs.length ≤ 24) (by omega), Bool.and_false]; rfl
    rw [he]
    clear he h3 hg
    by_cases h4 : 1 ≤ xs.length
    · have b1 : (1 : Int) ≤ (xs.length : Int) := by omega
      have b2 : ¬ (xs.length : Int) ≤ 24 := by omega
      clear hn
      go_enter Try.func36, Try.ntmps36
      go_wp2_with fail
      go_ret
      exact ⟨rfl, (Below.refl _ _).alloc (Nat.le_refl _) _⟩
    · have b1 : ¬ (1 : Int) ≤ (xs.length : Int) := by omega
      clear hn
      go_enter Try.func36, Try.ntmps36
      go_wp2_with fail
      go_ret
      exact ⟨rfl, (Below.refl _ _).alloc (Nat.le_refl _) _⟩
end Go.Proofs.Ytgaanndidcdbpaa
/- Append onto an own row: small facts, for any seat. -/
namespace Go.Proofs.Ytgaanndidcdbpaa
open Go.RowKit
theorem cell_one_new (w : World) (a : Value) (t : TypeId) : ∀ j u, [a][j]? = some u → (w.alloc (.cells #[a] t)).cell? ((⟨w.heap.size, 0, none⟩ : Addr).add j) = some u := by
  intro j u hj
  have hl : (w.alloc (.cells #[a] t)).heap[w.heap.size]? = some (.cells #[a] t (0, 0)) := by rw [heap_alloc_if, if_pos rfl]
  rw [addr_add, Nat.zero_add]
  refine cell_of hl ?_
  have : j = 0 := by have := (List.getElem?_eq_some_iff.1 hj).1; simp at this; omega
  subst this
  simpa using hj
theorem own_base {w : World} {base e sz n : Nat} {v : Value} {xs : List Value} (h : w.ownsRow base e sz v n xs) : ∀ g, v.ownBlock = some g → base ≤ g := by
  intro g hg
  rcases h.2 with ⟨rfl, _⟩ | ⟨b, cap, cur, rfl, hb, _⟩
  · simp [Value.ownBlock] at hg
  · simp [Value.ownBlock] at hg; omega
theorem own_nil (w : World) (base e sz : Nat) : w.ownsRow base e sz (.slice none 0 0) 0 [] := ⟨by simp, .inl ⟨rfl, rfl⟩⟩
end Go.Proofs.Ytgaanndidcdbpaa
namespace Go.Proofs.Ytgaanndidcdbpaa
open Go.RowKit Go.Shelf

theorem Try.info_u64 : (Try.prog.info? 23).map (fun i => (i.zero, i.size, i.bytes)) = some (some (.int .u64 0), 1, 8) := by kernel_rfl
def u64v (x : Nat) : Value := .int .u64 (x : Int)
theorem one_u64 (x : Nat) : ∀ u ∈ [u64v x], u.oneCell' = true := by intro u hu; simp at hu; subst hu; rfl
/-- an own row of numbers reads as a slice of numbers -/
theorem IsU64.ofOwn {w : World} {base e : Nat} {v : Value} {xs : List Nat} (h : w.ownsRow base e 1 v xs.length (xs.map u64v)) : IsU64 w (fun b => base ≤ b) v xs :=
  (IsSl.ofOwn h (M := fun b => base ≤ b) fun _ hb => hb).congr fun i j hi hj => by
    obtain rfl : j = 0 := by omega
    rw [Nat.mul_one, Nat.add_zero, List.getD_eq_getElem?_getD, List.getElem?_map, List.getElem?_eq_getElem hi, List.getD_eq_getElem?_getD, List.getElem?_eq_getElem hi]
    rfl
theorem IsU64.at_ {w wr : World} {M : Nat → Prop} {A : Option Addr} {c k : Nat} {xs : List Nat} (h : IsU64 w M (.slice A xs.length c) xs) (hb : Below w.heap.size w wr) (hk : k < xs.length) :
    ∃ b off, A = some ⟨b, off, none⟩ ∧ b < w.heap.size ∧ wr.cell? ⟨b, off + k, none⟩ = some (.int .u64 ((xs[k] : Nat) : Int)) := by
  obtain ⟨A', c', e, _, _, h3⟩ := h
  cases e
  obtain ⟨b, off, e, _, hl, hc⟩ := h3.at1 hb hk
  refine ⟨b, off, e, hl, ?_⟩
  rw [hc, List.getD_eq_getElem?_getD, List.getElem?_eq_getElem hk]
  rfl
/-- numbers and a code -/
def U64E (w : World) (r : List Nat × Int) (e : Ending) (w' : World) : Prop := ∃ v, e = .returned (.tuple #[v, .int .i64 r.2]) ∧ IsU64 w' (fun b => w.heap.size ≤ b) v r.1 ∧ Below w.heap.size w w'
def rowU (f : Nat → Nat) (xs : List Nat) (k : Nat) : List Value := ((xs.take k).map f).map u64v
theorem map_snoc (xs : List Nat) (f : Nat → Nat) (k : Nat) (h : k < xs.length) : rowU f xs k ++ [u64v (f xs[k])] = rowU f xs (k + 1) := by
  unfold rowU
  rw [List.take_succ_eq_append_getElem h, List.map_append, List.map_append]; rfl
set_option maxHeartbeats 1000000 in
theorem powers_any (w : World) (M : Nat → Prop) (v : Value) (xs : List Nat) (h : IsU64 w M v xs) (hx : U64s xs) :
    Calls Try.prog 29 #[v] w (U64E w (powersD xs)) := by
  have CA := Lib.hid (all_any asks_coef w M v xs h)
  have H := Lib.hid h
  obtain ⟨A, c, rfl, h1, h2, -⟩ := h
  by_cases ha : allD coefOk xs = true
  · rw [ha] at CA
    have hp : powersD xs = (xs.map (pw 4), 0) := by unfold powersD; rw [if_pos ha]
    rw [hp]
    have hlen : xs.length ≤ 24 := by
      unfold allD lenOk at ha
      simp only [Bool.and_eq_true, decide_eq_true_eq] at ha
      exact ha.1.2
    have HX := Lib.hid hx
    clear hp ha hx
    obtain ⟨iu, hiu, hz0, hz1, hz2⟩ := info_parts Try.info_u64
    have HIU := Lib.hid (And.intro hiu (And.intro hz0 (And.intro hz1 hz2)))
    clear hiu hz0 hz1 hz2
    go_enter Try.func29, Try.ntmps29
    go_wp2_with fail
    refine CA.out.mono ?_
    rintro e w1 ⟨rfl, hb1⟩
    have HB1 := Lib.hid hb1
    clear hb1
    go_wp2_with fail
    go_loopw [2, 11] (fun v i wr => ∃ k : Nat, k ≤ xs.length ∧ i = .int .i64 k ∧ Hid (wr.ownsRow w.heap.size 23 1 v k (rowU (pw 4) xs k)) ∧ Hid (Below w.heap.size w wr)) (fun _ i _ => xs.length - (intOf i).toNat)
    case atStart => exact ⟨0, Nat.zero_le _, rfl, Lib.hid (own_nil _ _ _ _), HB1⟩
    case round =>
      obtain ⟨k, hk, rfl, HO, HB⟩ := hrel
      by_cases hlt : k < xs.length
      · obtain ⟨b, off, rfl, hbl, hck⟩ := H.out.at_ HB.out hlt
        have hlt' : (k : Int) < (xs.length : Int) := by omega
        have CP := Lib.hid (Pow_any 4 xs[k] (HX.out _ (List.getElem_mem hlt)) wr)
        have MS := Lib.hid (map_snoc xs (pw 4) k hlt)
        obtain ⟨z, hz⟩ : ∃ z, pw 4 xs[k] = z := ⟨_, rfl⟩
        rw [hz] at CP MS
        clear hz
        go_wp2_with fail
        refine CP.out.mono ?_
        rintro e w2 ⟨rfl, n, rfl⟩
        have HOq : Hid ((wr.drewN n).ownsRow w.heap.size 23 1 u2 k (rowU (pw 4) xs k)) := HO
        have HBq := Lib.hid (below_drewN HB.out n)
        generalize wr.drewN n = wq at HOq HBq ⊢
        have hsq := HBq.out.size
        clear hck
        go_wp2_with (at_builtin; refine wpList_append_cells _ rfl _ _ 35 rfl w.heap.size 23 iu (.int .u64 0) 1 8 Try.underlying35 HIU.out.1 HIU.out.2.1 HIU.out.2.2.1 HIU.out.2.2.2 rfl (by decide) _ k _ rfl (HOq.out.alloc _) (some ⟨wq.heap.size, 0, none⟩) 1 1 [u64v z] rfl rfl ?c1 ?c2 ?c3 ?c4 ?c5 ?_)
        case c1 => exact fun _ => ⟨_, rfl, cell_one_new _ _ _⟩
        case c2 => exact one_u64 _
        case c3 => unfold maxLen; omega
        case c4 => omega
        case c5 => simp; omega
        intro v7 w7 hown7 hgrow7 _
        rw [MS.out] at hown7
        have HO7 := Lib.hid hown7
        have HB7 := Lib.hid ((HBq.out.alloc hsq _).grown hgrow7 (by simp; omega) (own_base HOq.out))
        clear hown7 hgrow7
        go_wp2_with fail
        go_roundw
        case rel => exact ⟨k + 1, by omega, by go_num, HO7, HB7⟩
        case measure => simp [intOf]; omega
      · have hnl : ¬ (k : Int) < (xs.length : Int) := by omega
        go_wp2_with fail
        go_ret2
        have hkk : k = xs.length := by omega
        subst hkk
        have ho := HO.out
        unfold rowU at ho
        rw [List.take_length] at ho
        exact ⟨_, rfl, IsU64.ofOwn (by rw [List.length_map]; exact ho), HB.out⟩
  · have hp : powersD xs = ([], 230) := by unfold powersD; rw [if_neg ha]
    rw [hp]
    rw [show allD coefOk xs = false by simpa using ha] at CA
    clear hp ha hx
    go_enter Try.func29, Try.ntmps29
    go_wp2_with fail
    refine CA.out.mono ?_
    rintro e w1 ⟨rfl, hb1⟩
    go_wp2_with fail
    go_ret2
    exact ⟨_, rfl, IsSl.nil, hb1⟩
end Go.Proofs.Ytgaanndidcdbpaa
namespace Go.Proofs.Ytgaanndidcdbpaa
open Go.RowKit Go.Shelf

theorem all_lenOk (ok : Nat → Bool) {xs : List Nat} (h : upTo ok xs xs.length) : allD ok xs = (decide ((1 : Int) ≤ (xs.length : Int)) && decide ((xs.length : Int) ≤ 24)) := by
  unfold allD lenOk
  rw [upTo_all h, Bool.and_true]
  congr 1 <;> exact decide_eq_decide.2 (by omega)
theorem all_not (ok : Nat → Bool) {xs : List Nat} {k : Nat} (hk : k < xs.length) (h : ok xs[k] = false) : allD ok xs = false := by
  unfold allD; rw [not_all hk h, Bool.and_false]
end Go.Proofs.Ytgaanndidcdbpaa
namespace Go.Proofs.Ytgaanndidcdbpaa
open Go.RowKit Go.Shelf

end Go.Proofs.Ytgaanndidcdbpaa
namespace Go.Proofs.Ytgaanndidcdbpaa
open Go.RowKit Go.Shelf

/-- cell j of share s -/
def shc (s : Nat × Nat) (j : Nat) : Value := u64v (if j = 0 then s.1 else s.2)
def shv (s : Nat × Nat) : Value := .agg #[u64v s.1, u64v s.2]
/-- a slice of shares -/
def IsShs (w : World) (M : Nat → Prop) (v : Value) (xs : List (Nat × Nat)) : Prop := IsSl w M 2 v xs.length (fun i j => shc (xs.getD i (0, 0)) j)
def Sh64 (xs : List (Nat × Nat)) : Prop := ∀ s ∈ xs, s.1 < 18446744073709551616 ∧ s.2 < 18446744073709551616
theorem IsShs.at_ {w wr : World} {M : Nat → Prop} {A : Option Addr} {c k : Nat} {xs : List (Nat × Nat)} (h : IsShs w M (.slice A xs.length c) xs) (hb : Below w.heap.size w wr) (hk : k < xs.length) :
    ∃ b off, A = some ⟨b, off, none⟩ ∧ b < w.heap.size ∧ wr.cell? ⟨b, off + k * 2, none⟩ = some (.int .u64 ((xs[k].1 : Nat) : Int)) ∧ wr.cell? ⟨b, off + k * 2 + 1, none⟩ = some (.int .u64 ((xs[k].2 : Nat) : Int)) := by
  obtain ⟨A', c', e, _, _, h3⟩ := h
  cases e
  obtain ⟨b, off, e, _, hl, hc, hc1⟩ := h3.at2 hb hk
  refine ⟨b, off, e, hl, ?_, ?_⟩
  · rw [hc, List.getD_eq_getElem?_getD, List.getElem?_eq_getElem hk]; rfl
  · rw [hc1, List.getD_eq_getElem?_getD, List.getElem?_eq_getElem hk]; rfl
/-- the cells of the shares, in a row -/
def rowS (xs : List (Nat × Nat)) : List Value := xs.flatMap fun s => [u64v s.1, u64v s.2]
theorem rowS_snoc (xs : List (Nat × Nat)) (s : Nat × Nat) : rowS xs ++ [u64v s.1, u64v s.2] = rowS (xs ++ [s]) := by simp [rowS]
theorem rowS_len (xs : List (Nat × Nat)) : (rowS xs).length = xs.length * 2 := by
  induction xs with
  | nil => rfl
  | cons a r ih => simp only [rowS, List.flatMap_cons, List.length_append, List.length_cons, List.length_nil] at ih ⊢; omega
theorem rowS_get : ∀ (xs : List (Nat × Nat)) (i j : Nat), i < xs.length → j < 2 → (rowS xs)[i * 2 + j]? = some (shc (xs.getD i (0, 0)) j)
  | [], i, j, hi, _ => absurd hi (by simp)
  | a :: r, 0, j, _, hj => by
    have : j = 0 ∨ j = 1 := by omega
    rcases this with rfl | rfl <;> rfl
  | a :: r, i + 1, j, hi, hj => by
    have := rowS_get r i j (by simpa using hi) hj
    rw [show (i + 1) * 2 + j = (i * 2 + j) + 1 + 1 by omega]
    show ([u64v a.1, u64v a.2] ++ rowS r)[_]? = _
    simpa using this
theorem IsShs.ofOwn {w : World} {base e : Nat} {v : Value} {xs : List (Nat × Nat)} (h : w.ownsRow base e 2 v xs.length (rowS xs)) : IsShs w (fun b => base ≤ b) v xs :=
  (IsSl.ofOwn h (M := fun b => base ≤ b) fun _ hb => hb).congr fun i j hi hj => by
    rw [List.getD_eq_getElem?_getD, rowS_get xs i j hi hj]
    rfl
theorem two_u64 (x y : Nat) : ∀ u ∈ [u64v x, u64v y], u.oneCell' = true := by intro u hu; simp at hu; rcases hu with rfl | rfl <;> rfl
theorem cell_two_new (w : World) (a b : Value) (t : TypeId) : ∀ j u, [a, b][j]? = some u → (w.alloc (.cells #[a, b] t)).cell? ((⟨w.heap.size, 0, none⟩ : Addr).add j) = some u := by
  intro j u hj
  have hl : (w.alloc (.cells #[a, b] t)).heap[w.heap.size]? = some (.cells #[a, b] t (0, 0)) := by rw [heap_alloc_if, if_pos rfl]
  rw [addr_add, Nat.zero_add]
  refine cell_of hl ?_
  simpa using hj
theorem Try.info_sh : (Try.prog.info? 59).map (fun i => (i.zero, i.size, i.bytes)) = some (some (.agg #[.int .u64 0, .int .u64 0]), 2, 16) := by kernel_rfl

theorem shOk_3 (x y : Nat) (a b c : Bool) (ha : decide ((1 : Int) ≤ (x : Int)) = a) (hb : decide ((x : Int) ≤ 192) = b) (hc : decide ((y : Int) < 1152921504606845789) = c) : shOk (x, y) = (a && b && c) := by
  have h1 : decide (1 ≤ x) = a := by rw [← ha]; exact decide_eq_decide.2 (by omega)
  have h2 : decide (x ≤ 192) = b := by rw [← hb]; exact decide_eq_decide.2 (by omega)
  have h3 : decide (y < 1152921504606845789) = c := by rw [← hc]; exact decide_eq_decide.2 (by omega)
  unfold shOk
  rw [h1, h2, h3]
set_option maxRecDepth 100000 in
theorem isShare_any (x y : Nat) (w : World) : Calls Try.prog 92 #[.agg #[.int .u64 x, .int .u64 y]] w fun e w' => e = .returned (.bool (shOk (x, y))) ∧ Below w.heap.size w w' := by
  obtain ⟨a, ha⟩ : ∃ a, decide ((1 : Int) ≤ (x : Int)) = a := ⟨_, rfl⟩
  obtain ⟨b, hb⟩ : ∃ b, decide ((x : Int) ≤ 192) = b := ⟨_, rfl⟩
  obtain ⟨c, hc⟩ : ∃ c, decide ((y : Int) < 1152921504606845789) = c := ⟨_, rfl⟩
  rw [shOk_3 x y a b c ha hb hc]
  cases a with
  | false =>
    go_enter Try.func92, Try.ntmps92
    go_wp2_with fail
    go_ret
    exact ⟨rfl, (Below.refl _ _).alloc (Nat.le_refl _) _⟩
  | true =>
    cases b with
    | false =>
      go_enter Try.func92, Try.ntmps92
      go_wp2_with fail
      go_ret
      exact ⟨rfl, (Below.refl _ _).alloc (Nat.le_refl _) _⟩
    | true =>
      go_enter Try.func92, Try.ntmps92
      go_wp2_with fail
      go_ret
      exact ⟨by rw [Bool.true_and, Bool.true_and]; rfl, (Below.refl _ _).alloc (Nat.le_refl _) _⟩
end Go.Proofs.Ytgaanndidcdbpaa
namespace Go.Proofs.Ytgaanndidcdbpaa
open Go.RowKit Go.Shelf

theorem quiet_left {P : Program} {f : FuncId} {args : Array Value} {w : World} {n : Nat} {v : Value}
    (h : Calls P f args (w.drewN n) fun e w' => e = .returned v ∧ w.drewN n = w') : Calls P f args (w.drewN n) fun e w'' => e = .returned v ∧ ∃ m, w'' = w.drewN m :=
  h.mono fun _ _ ⟨he, hm⟩ => ⟨he, n, hm.symm⟩
theorem lenOk_yes {n : Nat} (h1 : 1 ≤ n) (h2 : n ≤ 24) : lenOk n = true := by unfold lenOk; rw [decide_eq_true h1, decide_eq_true h2]; rfl
theorem all_no_len (ok : Nat → Bool) {xs : List Nat} (h : ¬ (1 ≤ xs.length ∧ xs.length ≤ 24)) : allD ok xs = false := by
  unfold allD lenOk
  rcases Nat.lt_or_ge xs.length 1 with h4 | h4
  · rw [decide_eq_false (by omega)]; rfl
  · rw [decide_eq_false (p := xs.length ≤ 24) (by omega), Bool.and_false]; rfl
theorem all_yes (ok : Nat → Bool) {xs : List Nat} (h1 : 1 ≤ xs.length) (h2 : xs.length ≤ 24) (h : upTo ok xs xs.length) : allD ok xs = true := by
  unfold allD; rw [lenOk_yes h1 h2, upTo_all h]; rfl
theorem hor_drop {xs : List Nat} {r : Nat} (h : r < xs.length) (x : Nat) : hor (xs.drop r) x = (hor (xs.drop (r + 1)) x * x % 1152921504606845789 + xs[r]) % 1152921504606845789 := by
  rw [List.drop_eq_getElem_cons h]
  unfold hor
  rw [List.foldr_cons]
theorem horlt (cs : List Nat) (x : Nat) : hor cs x < 1152921504606845789 := by
  cases cs with
  | nil => exact (by decide : (0 : Nat) < 1152921504606845789)
  | cons c r => exact Nat.mod_lt _ (by decide)
end Go.Proofs.Ytgaanndidcdbpaa
namespace Go.Proofs.Ytgaanndidcdbpaa
open Go.RowKit Go.Shelf

/-- shares and a code -/
def ShsE (w : World) (r : List (Nat × Nat) × Int) (e : Ending) (w' : World) : Prop := ∃ v, e = .returned (.tuple #[v, .int .i64 r.2]) ∧ IsShs w' (fun b => w.heap.size ≤ b) v r.1 ∧ Below w.heap.size w w'
/-- the first k shares of a polynomial -/
def shsTo (cs : List Nat) (k : Nat) : List (Nat × Nat) := (List.range k).map fun i => (i + 1, hor cs (i + 1))
theorem shsTo_len (cs : List Nat) (k : Nat) : (shsTo cs k).length = k := by simp [shsTo]
theorem shsTo_succ (cs : List Nat) (k : Nat) : rowS (shsTo cs k) ++ [u64v (k + 1), u64v (hor cs (k + 1))] = rowS (shsTo cs (k + 1)) := by
  rw [rowS_snoc (shsTo cs k) (k + 1, hor cs (k + 1))]
  unfold shsTo
  rw [List.range_succ, List.map_append]
  rfl
theorem splitD_yes {cs : List Nat} {n : Nat} (h : allD coefOk cs = true) (h1 : 1 ≤ n) (h2 : n ≤ 192) : splitD cs (n : Int) = (shsTo cs n, 0) := by
  unfold splitD; rw [if_pos ⟨h, by omega, by omega⟩]; rfl
theorem splitD_no {cs : List Nat} {n : Int} (h : ¬ (allD coefOk cs = true ∧ 1 ≤ n ∧ n ≤ 192)) : splitD cs n = ([], 230) := by
  unfold splitD; rw [if_neg h]
theorem IsShs.row {w : World} {base e k : Nat} {v : Value} {cs : List Nat} (h : w.ownsRow base e 2 v k (rowS (shsTo cs k))) : IsShs w (fun b => base ≤ b) v (shsTo cs k) :=
  IsShs.ofOwn (by rw [shsTo_len]; exact h)
end Go.Proofs.Ytgaanndidcdbpaa
