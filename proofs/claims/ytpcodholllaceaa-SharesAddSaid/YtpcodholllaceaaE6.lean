import Derived.Test.YtpcodholllaceaaE5
namespace Go.Proofs.Ytpcodholllaceaa
open Go.RowKit Go.Shelf

/-- cell j of share s -/
def shc (s : Nat × Nat) (j : Nat) : Value := u64v (if j = 0 then s.1 else s.2)
def shv (s : Nat × Nat) : Value := .agg #[u64v s.1, u64v s.2]
/-- a slice of shares -/
def IsShs (w : World) (M : Nat → Prop) (v : Value) (xs : List (Nat × Nat)) : Prop := IsSl w M 2 v xs.length (fun i j => shc (xs.getD i (0, 0)) j)
def Sh64 (xs : List (Nat × Nat)) : Prop := ∀ s ∈ xs, s.1 < 18446744073709551616 ∧ s.2 < 18446744073709551616
theorem IsShs.at_ {w wr : World} {M : Nat → Prop} {A : Option Addr} {c k : Nat} {xs : List (Nat × Nat)} (h : IsShs w M (.slice A xs.length c) xs) (hb : Below w.heap.size w wr) (hk : k < xs.length) :
    ∃ b off, A = some ⟨b, off, none⟩ ∧ b < w.heap.size ∧ wr.cell? ⟨b, off + k * 2, none⟩ = some (.int .u64 ((xs[k].1 : Nat) : Int)) ∧ wr.cell? ⟨b, off + k * 2 + 1, none⟩ = some (.int .u64 ((xs[k].2 : Nat) : Int)) := by
  obtain ⟨A', c', e, _, _, h3⟩ := h
  cases e
  obtain ⟨b, off, e, _, hl, hc, hc1⟩ := h3.at2 hb hk
  refine ⟨b, off, e, hl, ?_, ?_⟩
  · rw [hc, List.getD_eq_getElem?_getD, List.getElem?_eq_getElem hk]; rfl
  · rw [hc1, List.getD_eq_getElem?_getD, List.getElem?_eq_getElem hk]; rfl
/-- the cells of the shares, in a row -/
def rowS (xs : List (Nat × Nat)) : List Value := xs.flatMap fun s => [u64v s.1, u64v s.2]
theorem rowS_snoc (xs : List (Nat × Nat)) (s : Nat × Nat) : rowS xs ++ [u64v s.1, u64v s.2] = rowS (xs ++ [s]) := by simp [rowS]
theorem rowS_len (xs : List (Nat × Nat)) : (rowS xs).length = xs.length * 2 := by
  induction xs with
  | nil => rfl
  | cons a r ih => simp only [rowS, List.flatMap_cons, List.length_append, List.length_cons, List.length_nil] at ih ⊢; omega
theorem rowS_get : ∀ (xs : List (Nat × Nat)) (i j : Nat), i < xs.length → j < 2 → (rowS xs)[i * 2 + j]? = some (shc (xs.getD i (0, 0)) j)
  | [], i, j, hi, _ => absurd hi (by simp)
  | a :: r, 0, j, _, hj => by
    have : j = 0 ∨ j = 1 := by omega
    rcases this with rfl | rfl <;> rfl
  | a :: r, i + 1, j, hi, hj => by
    have := rowS_get r i j (by simpa using hi) hj
    rw [show (i + 1) * 2 + j = (i * 2 + j) + 1 + 1 by omega]
    show ([u64v a.1, u64v a.2] ++ rowS r)[_]? = _
    simpa using this
theorem IsShs.ofOwn {w : World} {base e : Nat} {v : Value} {xs : List (Nat × Nat)} (h : w.ownsRow base e 2 v xs.length (rowS xs)) : IsShs w (fun b => base ≤ b) v xs :=
  (IsSl.ofOwn h (M := fun b => base ≤ b) fun _ hb => hb).congr fun i j hi hj => by
    rw [List.getD_eq_getElem?_getD, rowS_get xs i j hi hj]
    rfl
theorem two_u64 (x y : Nat) : ∀ u ∈ [u64v x, u64v y], u.oneCell' = true := by intro u hu; simp at hu; rcases hu with rfl | rfl <;> rfl
theorem cell_two_new (w : World) (a b : Value) (t : TypeId) : ∀ j u, [a, b][j]? = some u → (w.alloc (.cells #[a, b] t)).cell? ((⟨w.heap.size, 0, none⟩ : Addr).add j) = some u := by
  intro j u hj
  have hl : (w.alloc (.cells #[a, b] t)).heap[w.heap.size]? = some (.cells #[a, b] t (0, 0)) := by rw [heap_alloc_if, if_pos rfl]
  rw [addr_add, Nat.zero_add]
  refine cell_of hl ?_
  simpa using hj
theorem Try.info_sh : (Try.prog.info? 36).map (fun i => (i.zero, i.size, i.bytes)) = some (some (.agg #[.int .u64 0, .int .u64 0]), 2, 16) := by kernel_rfl

theorem shOk_3 (x y : Nat) (a b c : Bool) (ha : decide ((1 : Int) ≤ (x : Int)) = a) (hb : decide ((x : Int) ≤ 192) = b) (hc : decide ((y : Int) < 1152921504606845789) = c) : shOk (x, y) = (a && b && c) := by
  have h1 : decide (1 ≤ x) = a := by rw [← ha]; exact decide_eq_decide.2 (by omega)
  have h2 : decide (x ≤ 192) = b := by rw [← hb]; exact decide_eq_decide.2 (by omega)
  have h3 : decide (y < 1152921504606845789) = c := by rw [← hc]; exact decide_eq_decide.2 (by omega)
  unfold shOk
  rw [h1, h2, h3]
set_option maxRecDepth 100000 in
theorem isShare_any (x y : Nat) (w : World) : Calls Try.prog 38 #[.agg #[.int .u64 x, .int .u64 y]] w fun e w' => e = .returned (.bool (shOk (x, y))) ∧ Below w.heap.size w w' := by
  obtain ⟨a, ha⟩ : ∃ a, decide ((1 : Int) ≤ (x : Int)) = a := ⟨_, rfl⟩
  obtain ⟨b, hb⟩ : ∃ b, decide ((x : Int) ≤ 192) = b := ⟨_, rfl⟩
  obtain ⟨c, hc⟩ : ∃ c, decide ((y : Int) < 1152921504606845789) = c := ⟨_, rfl⟩
  rw [shOk_3 x y a b c ha hb hc]
  cases a with
  | false =>
    go_enter Try.func38, Try.ntmps38
    go_wp2_with fail
    go_ret
    exact ⟨rfl, (Below.refl _ _).alloc (Nat.le_refl _) _⟩
  | true =>
    cases b with
    | false =>
      go_enter Try.func38, Try.ntmps38
      go_wp2_with fail
      go_ret
      exact ⟨rfl, (Below.refl _ _).alloc (Nat.le_refl _) _⟩
    | true =>
      go_enter Try.func38, Try.ntmps38
      go_wp2_with fail
      go_ret
      exact ⟨by rw [Bool.true_and, Bool.true_and]; rfl, (Below.refl _ _).alloc (Nat.le_refl _) _⟩
set_option maxRecDepth 100000 in
theorem valid_any (x y : Nat) (w : World) : Calls Try.prog 41 #[.agg #[.int .u64 x, .int .u64 y]] w fun e w' => e = .returned (.bool (shOk (x, y))) ∧ Below w.heap.size w w' := by
  obtain ⟨a, ha⟩ : ∃ a, decide ((1 : Int) ≤ (x : Int)) = a := ⟨_, rfl⟩
  obtain ⟨b, hb⟩ : ∃ b, decide ((x : Int) ≤ 192) = b := ⟨_, rfl⟩
  obtain ⟨c, hc⟩ : ∃ c, decide ((y : Int) < 1152921504606845789) = c := ⟨_, rfl⟩
  rw [shOk_3 x y a b c ha hb hc]
  cases a with
  | false =>
    go_enter Try.func41, Try.ntmps41
    go_wp2_with fail
    go_ret
    exact ⟨rfl, (Below.refl _ _).alloc (Nat.le_refl _) _⟩
  | true =>
    cases b with
    | false =>
      go_enter Try.func41, Try.ntmps41
      go_wp2_with fail
      go_ret
      exact ⟨rfl, (Below.refl _ _).alloc (Nat.le_refl _) _⟩
    | true =>
      go_enter Try.func41, Try.ntmps41
      go_wp2_with fail
      go_ret
      exact ⟨by rw [Bool.true_and, Bool.true_and]; rfl, (Below.refl _ _).alloc (Nat.le_refl _) _⟩
end Go.Proofs.Ytpcodholllaceaa
