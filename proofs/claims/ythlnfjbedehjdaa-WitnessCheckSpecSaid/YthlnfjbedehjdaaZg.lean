import Derived.Test.YthlnfjbedehjdaaZe
import Derived.BigQuiet
import Derived.Test.YthlnfjbedehjdaaC9
/- The reference's choose, ByFlow, BySearch. -/
namespace Go.Proofs.Ythlnfjbedehjdaa
open Go.RowKit Go.Deep Go.Shelf

theorem choose_step {x n i : Nat} (hn : n ≤ 5) (hi : i ≤ n) (h : i = 0 ∧ x = 1 ∨ i = 1 ∧ x ≤ 5) :
    ∃ y : Nat, wrap64 ((wrap64 ((x : Int) * ((n : Int) - (i : Int)))).tdiv ((i : Int) + 1)) = (y : Int) ∧ y ≤ 25 ∧ (i + 1 = 0 ∧ y = 1 ∨ i + 1 = 1 ∧ y ≤ 5 ∨ i + 1 = 2 ∧ y ≤ 25) := by
  have hP : (x : Int) * ((n : Int) - (i : Int)) = ((x * (n - i) : Nat) : Int) := by rw [Int.natCast_mul, Int.ofNat_sub hi]
  have hQ : x * (n - i) ≤ 5 * 5 := Nat.mul_le_mul (by omega) (by omega)
  have hR : i = 0 → x * (n - i) ≤ 5 := fun e => by
    rcases h with ⟨-, rfl⟩ | ⟨e', -⟩
    · omega
    · omega
  rw [hP]
  generalize x * (n - i) = P at *
  have hW : wrap64 (P : Int) = (P : Int) := IntWalk.wrap64_in _ (by omega)
  rw [hW]
  have hT : ((P : Int)).tdiv ((i : Int) + 1) = ((P / (i + 1) : Nat) : Int) := by rw [Int.tdiv_eq_ediv_of_nonneg (by omega)]; rfl
  have hD : P / (i + 1) ≤ P := Nat.div_le_self _ _
  rw [hT]
  generalize P / (i + 1) = y at *
  have hW2 : wrap64 (y : Int) = (y : Int) := IntWalk.wrap64_in _ (by omega)
  first | rw [hW2] | skip
  refine ⟨y, rfl, by omega, ?_⟩
  rcases h with ⟨rfl, -⟩ | ⟨rfl, -⟩
  · have := hR rfl; exact Or.inr (Or.inl ⟨rfl, by omega⟩)
  · exact Or.inr (Or.inr ⟨rfl, by omega⟩)
set_option maxRecDepth 20000 in
set_option maxHeartbeats 4000000 in
theorem choose_any (w : World) (n k : Nat) (hn : n ≤ 5) (hk : k ≤ 6) : Calls Try.prog 83 #[.int .i64 (n : Int), .int .i64 (k : Int)] w fun e w' => (∃ z : Int, e = .returned (.int .i64 z) ∧ z ≤ 2048) ∧ Below w.heap.size w w' := by
  by_cases hkn : n < k
  · have h0 : ¬ ((k : Int) < 0) := by omega
    have h1 : (n : Int) < (k : Int) := by omega
    have d0 : decide ((k : Int) < 0) = false := decide_eq_false h0
    have d1 : decide ((n : Int) < (k : Int)) = true := decide_eq_true h1
    go_enter Try.func83, Try.ntmps83
    go_wp2_with fail
    go_ret
    exact ⟨⟨0, rfl, by omega⟩, Below.refl _ _⟩
  have h0 : ¬ ((k : Int) < 0) := by omega
  have h1 : ¬ (n : Int) < (k : Int) := by omega
  have d0 : decide ((k : Int) < 0) = false := decide_eq_false h0
  have d1 : decide ((n : Int) < (k : Int)) = false := decide_eq_false h1
  have hk1 : (0 : Int) ≤ (k : Int) := by omega
  have hn1 : (n : Int) ≤ 5 := by omega
  go_enter Try.func83, Try.ntmps83
  go_wp2_with fail
  go_loopw [5, 6] (fun s5 s6 wr => ∃ i x : Nat, s5 = .int .i64 (x : Int) ∧ s6 = .int .i64 (i : Int) ∧ Hid (i = 0 ∧ x = 1 ∨ i = 1 ∧ x ≤ 5 ∨ i = 2 ∧ x ≤ 25) ∧ Hid (Below w.heap.size w wr)) (fun _ s6 _ => 2 - (intOf s6).toNat)
  case atStart => exact ⟨0, 1, rfl, rfl, Lib.hid (Or.inl ⟨rfl, rfl⟩), Lib.hid (by repeat (first | with_reducible exact Below.refl _ _ | (with_reducible refine Below.drew ?_)))⟩
  case round =>
    obtain ⟨i, x, rfl, rfl, HI, HB⟩ := hrel
    have hi : i ≤ 2 := by rcases HI.out with h | h | h <;> omega
    have hx : x ≤ 25 := by rcases HI.out with h | h | h <;> omega
    by_cases hmin : k ≤ n - k
    · have hmi : (k : Int) ≤ (n : Int) - (k : Int) := by omega
      by_cases t : i < k
      · have ti : (i : Int) < (k : Int) := by omega
        have td : decide (i < k) = true := decide_eq_true t
        obtain ⟨y, hy, hy2, hy3⟩ := choose_step hn (show i ≤ n by omega) (show i = 0 ∧ x = 1 ∨ i = 1 ∧ x ≤ 5 by rcases HI.out with h | h | h <;> omega)
        have HY3 := Lib.hid hy3
        have hy5 : ¬ (5000 : Int) < (y : Int) := by omega
        clear hy3
        go_wp2_with fail
        go_roundw
        case rel => exact ⟨i + 1, y, by rw [hy], by simp, HY3, Lib.hid (by repeat (first | with_reducible exact HB.out | (with_reducible refine Below.drew ?_)))⟩
        case measure => rcases HI.out with h | h | h <;> simp [intOf] <;> omega
      · have ti : ¬ (i : Int) < (k : Int) := by omega
        have td : decide (i < k) = false := decide_eq_false t
        go_wp2_with fail
        go_ret
        exact ⟨⟨_, rfl, by omega⟩, HB.out⟩
    · have hmi : ¬ (k : Int) ≤ (n : Int) - (k : Int) := by omega
      have hmi2 : (n : Int) - (k : Int) < (k : Int) := by omega
      by_cases t : i < n - k
      · have ti : (i : Int) < (n : Int) - (k : Int) := by omega
        obtain ⟨y, hy, hy2, hy3⟩ := choose_step hn (show i ≤ n by omega) (show i = 0 ∧ x = 1 ∨ i = 1 ∧ x ≤ 5 by rcases HI.out with h | h | h <;> omega)
        have HY3 := Lib.hid hy3
        have hy5 : ¬ (5000 : Int) < (y : Int) := by omega
        clear hy3
        go_wp2_with fail
        go_roundw
        case rel => exact ⟨i + 1, y, by rw [hy], by simp, HY3, Lib.hid (by repeat (first | with_reducible exact HB.out | (with_reducible refine Below.drew ?_)))⟩
        case measure => rcases HI.out with h | h | h <;> simp [intOf] <;> omega
      · have ti : ¬ (i : Int) < (n : Int) - (k : Int) := by omega
        go_wp2_with fail
        go_ret
        exact ⟨⟨_, rfl, by omega⟩, HB.out⟩
set_option maxRecDepth 20000 in
set_option maxHeartbeats 4000000 in
theorem rbySearch_any (w : World) (M : Nat → Prop) (v : Value) (q : RaceD) (h : IsRace w M v q) (hl : q.opn.length ≤ 1000) : Calls Try.prog 66 #[v] w fun e w' => e = .returned (.bool (decide (q.opn.length ≤ 8))) ∧ Below w.heap.size w w' := by
  obtain ⟨cA, cc, pA, pc, oA, oc, rfl, -⟩ := h.parts
  obtain ⟨n, hn⟩ : ∃ n, n = q.opn.length := ⟨_, rfl⟩
  rw [← hn] at hl
  rw [← hn]
  clear h hn
  by_cases h8 : n ≤ 8
  · have d1 : decide ((n : Int) ≤ 8) = true := by rw [decide_eq_true_eq]; omega
    have HQ := Lib.hid (decide_eq_true h8)
    clear h8
    go_enter Try.func66, Try.ntmps66
    go_wp2_with fail
    go_ret
    exact ⟨ret_bool HQ.out.symm, (Below.refl _ _).alloc (Nat.le_refl _) _⟩
  · have d1 : decide ((n : Int) ≤ 8) = false := by rw [decide_eq_false_iff_not]; omega
    have HQ := Lib.hid (decide_eq_false h8)
    clear h8
    go_enter Try.func66, Try.ntmps66
    go_wp2_with fail
    go_ret
    exact ⟨ret_bool HQ.out.symm, (Below.refl _ _).alloc (Nat.le_refl _) _⟩
set_option maxRecDepth 20000 in
set_option maxHeartbeats 4000000 in
theorem rbyFlow_any (w : World) (M : Nat → Prop) (v : Value) (q : RaceD) (h : IsRace w M v q) (hs : SizeR q) (h6 : q.clubs.length ≤ 6) : Calls Try.prog 64 #[v] w fun e w' => e = .returned (.bool (halvesB q)) ∧ Below w.heap.size w w' := by
  obtain ⟨pl, hpl⟩ : ∃ pl : Nat, q.place = (pl : Int) := ⟨q.place.toNat, by have := hs.p1; omega⟩
  have hp1 : 1 ≤ pl := by have := hs.p1; omega
  have hp6 : pl ≤ 6 := by have := hs.pn; omega
  have hd0 := hs.d0
  have hd9 : q.draw ≤ 999 := by have := hs.dw; have := hs.w9; omega
  obtain ⟨cA, cc, pA, pc, oA, oc, rfl, -⟩ := h.parts
  have hn2 : 2 ≤ q.clubs.length := hs.n2
  rw [hpl]
  obtain ⟨n, hn⟩ : ∃ n, n = q.clubs.length := ⟨_, rfl⟩
  rw [← hn] at h6 hn2 ⊢
  unfold halvesB
  obtain ⟨d, hd⟩ : ∃ d, d = q.draw := ⟨_, rfl⟩
  obtain ⟨m, hm⟩ : ∃ m, m = q.win := ⟨_, rfl⟩
  rw [← hd] at hd0 hd9 ⊢
  rw [← hm]
  clear h hs hpl hn hd hm
  obtain ⟨n1, hn1⟩ : ∃ n1, n = n1 + 1 := ⟨n - 1, by omega⟩
  have hn5 : n1 ≤ 5 := by omega
  have hw1 : (n : Int) - 1 = (n1 : Int) := by omega
  obtain ⟨p1, hq1⟩ : ∃ p1, pl = p1 + 1 := ⟨pl - 1, by omega⟩
  have hp5 : p1 ≤ 6 := by omega
  have hw2 : (pl : Int) - 1 = (p1 : Int) := by omega
  have hnn : (1 : Int) ≤ (n : Int) ∧ (n : Int) ≤ 6 := by omega
  have hpp : (1 : Int) ≤ (pl : Int) ∧ (pl : Int) ≤ 6 := by omega
  clear hn1 hq1
  go_enter Try.func64, Try.ntmps64
  by_cases t : 0 < d
  case neg =>
    have d1 : decide (0 < d) = false := decide_eq_false t
    have E := Lib.hid d1
    go_wp2_with fail
    go_ret
    exact ⟨by first | rfl | (rw [E.out]; rfl), (Below.refl _ _).alloc (Nat.le_refl _) _⟩
  have d1 : decide (0 < d) = true := decide_eq_true t
  by_cases t2 : m = 2 * d
  case neg =>
    have d2 : (m == 2 * d) = false := by simpa using t2
    have e2 : decide (m = 2 * d) = false := decide_eq_false t2
    have E := Lib.hid (And.intro d1 e2)
    clear t2 e2
    go_wp2_with fail
    go_ret
    exact ⟨by first | rfl | (rw [E.out.1, E.out.2]; rfl) | (rw [E.out.2]; rfl), (Below.refl _ _).alloc (Nat.le_refl _) _⟩
  have d2 : (m == 2 * d) = true := by simpa using t2
  have e2 : decide (m = 2 * d) = true := decide_eq_true t2
  have E := Lib.hid (And.intro d1 e2)
  clear t2 e2
  go_wp2_with fail
  refine nameW fun W1 hW1 => ?_
  have hb1 : Below w.heap.size w W1 := by rw [hW1.out]; exact (Below.refl _ _).alloc (Nat.le_refl _) _
  have k0 : W1.heap[w.heap.size]? = some (.cells #[.int .i64 m, .int .i64 d, .slice cA n cc, .slice pA q.points.length pc, .slice oA q.opn.length oc, .int .i64 q.club, .int .i64 (pl : Int)] 25 (0, 0)) := by rw [hW1.out]; exact heap_alloc_new _ _
  clear hW1
  refine (choose_any W1 n1 pl hn5 hp6).mono ?_
  rintro e W2 ⟨⟨z1, rfl, hz1⟩, hb⟩
  have hb2 := hb1.trans (hb.mono hb1.size)
  have k2 := (hb.block _ (lt_heap k0)).trans k0
  have r6 := cell_of (j := 6) k2 rfl
  have dz1 : decide (z1 ≤ 2048) = true := decide_eq_true hz1
  clear hb hb1 k0
  have HB2 := Lib.hid hb2
  clear hb2 k2
  go_wp2_with fail
  refine (choose_any W2 n1 p1 hn5 hp5).mono ?_
  rintro e W3 ⟨⟨z2, rfl, hz2⟩, hb⟩
  have HB3 := Lib.hid (HB2.out.trans (hb.mono HB2.out.size))
  have dz2 : decide (z2 ≤ 2048) = true := decide_eq_true hz2
  clear hb r6
  go_wp2_with fail
  go_ret
  exact ⟨by first | rfl | (rw [E.out.1, E.out.2]; rfl) | (rw [E.out.2]; rfl), HB3.out⟩
end Go.Proofs.Ythlnfjbedehjdaa
/- always of the reference, plain. -/
namespace Go.Proofs.Ythlnfjbedehjdaa
/-- what the reference computes behind the outcomes o, with n games more -/
def alwR (q : RaceD) (certain : Bool) : Nat → List Int → Bool
  | 0, o => keptB q certain o
  | n + 1, o => alwR q certain n (o ++ [1]) && alwR q certain n (o ++ [2]) && alwR q certain n (o ++ [3])
theorem alwR_iff (q : RaceD) (certain : Bool) : ∀ (n : Nat) (o : List Int), alwR q certain n o = true ↔ ∀ r : List Int, r.length = n → (∀ x ∈ r, 1 ≤ x ∧ x ≤ 3) → keptB q certain (o ++ r) = true
  | 0, o => ⟨fun h r hr _ => by
      obtain rfl : r = [] := List.eq_nil_of_length_eq_zero hr
      rw [List.append_nil]; exact h, fun h => by
      have := h [] rfl (fun _ h => absurd h (by simp))
      rw [List.append_nil] at this; exact this⟩
  | n + 1, o => by
    have e : ∀ (y : Int) (r : List Int), o ++ [y] ++ r = o ++ y :: r := fun y r => by simp
    constructor
    · intro h r hr hx
      match r, hr with
      | y :: r, hr =>
        have h : (alwR q certain n (o ++ [1]) && alwR q certain n (o ++ [2]) && alwR q certain n (o ++ [3])) = true := h
        simp only [Bool.and_eq_true] at h
        obtain ⟨⟨h1, h2⟩, h3⟩ := h
        have hy := hx y (by simp)
        have hr' : r.length = n := by simpa using hr
        have hx' : ∀ x ∈ r, 1 ≤ x ∧ x ≤ 3 := fun x hm => hx x (by simp [hm])
        have hy' : y = 1 ∨ y = 2 ∨ y = 3 := by omega
        rcases hy' with rfl | rfl | rfl
        · rw [← e]; exact (alwR_iff q certain n _).1 h1 r hr' hx'
        · rw [← e]; exact (alwR_iff q certain n _).1 h2 r hr' hx'
        · rw [← e]; exact (alwR_iff q certain n _).1 h3 r hr' hx'
    · intro h
      have k : ∀ y : Int, 1 ≤ y → y ≤ 3 → alwR q certain n (o ++ [y]) = true := fun y h1 h3 => (alwR_iff q certain n _).2 fun r hr hx => by
        rw [e]
        exact h (y :: r) (by simp [hr]) (fun x hm => by
          rcases List.mem_cons.1 hm with rfl | hm
          · exact ⟨h1, h3⟩
          · exact hx x hm)
      show (alwR q certain n (o ++ [1]) && alwR q certain n (o ++ [2]) && alwR q certain n (o ++ [3])) = true
      rw [k 1 (by decide) (by decide), k 2 (by decide) (by decide), k 3 (by decide) (by decide)]
      rfl
theorem alwR_always (q : RaceD) (certain : Bool) : alwR q certain q.opn.length [] = alwaysB q certain := by
  rw [Bool.eq_iff_iff, alwR_iff]
  unfold alwaysB
  rw [List.all_eq_true]
  constructor
  · intro h s hs
    obtain ⟨h1, h2⟩ := (allO_mem _ s).1 hs
    exact h s h1 h2
  · intro h r h1 h2
    exact h r ((allO_mem _ r).2 ⟨h1, h2⟩)
end Go.Proofs.Ythlnfjbedehjdaa
/- always of the reference: all games have an outcome. -/
namespace Go.Proofs.Ythlnfjbedehjdaa
open Go.RowKit Go.Deep Go.Shelf

set_option maxRecDepth 20000 in
set_option maxHeartbeats 4000000 in
theorem ralways0_any (w : World) (M M' : Nat → Prop) (v u : Value) (q : RaceD) (certain : Bool) (outs : List Int) (h : IsRace w M v q) (h' : IsInts w M' u outs) (hv : ValidR q) (hco : complB q outs = true) :
    Calls Try.prog 67 #[v, .bool certain, u] w fun e w' => e = .returned (.bool (keptB q certain outs)) ∧ Below w.heap.size w w' := by
  obtain ⟨cA, cc, pA, pc, oA, oc, rfl, -⟩ := h.parts
  obtain ⟨uA, uc, rfl, -⟩ := id h'
  have HR := Lib.hid h
  have HU := Lib.hid h'
  have HV := Lib.hid hv
  have HCO := Lib.hid hco
  have hle : outs.length = q.opn.length := by unfold complB at hco; simp only [Bool.and_eq_true, decide_eq_true_eq] at hco; exact hco.1
  clear h h' hv hco
  rw [hle]
  obtain ⟨z, hz⟩ : ∃ z, z = keptB q certain outs := ⟨_, rfl⟩
  have HZ := Lib.hid hz
  rw [← hz]
  clear hz
  have hn24 := HV.out.size.n24
  have hp1 := HV.out.size.p1
  have hpn := HV.out.size.pn
  have ho9 := HV.out.size.opn
  have HLE := Lib.hid hle
  clear hle
  have hnl : ¬ (q.opn.length : Int) < (q.opn.length : Int) := by omega
  go_enter Try.func67, Try.ntmps67
  go_upto_region 8 with fail
  refine nameC fun W3 hW3 => ?_
  have hb3 : Below w.heap.size w W3 := by rw [hW3.out]; exact (Below.refl _ _).alloc (Nat.le_refl _) _
  have k0 : W3.heap[w.heap.size]? = some (.cells #[.int .i64 q.win, .int .i64 q.draw, .slice cA q.clubs.length cc, .slice pA q.points.length pc, .slice oA q.opn.length oc, .int .i64 q.club, .int .i64 q.place] 25 (0, 0)) := by rw [hW3.out]; exact heap_alloc_new _ _
  have HB3 := Lib.hid hb3
  clear hW3 hb3
  have HC := Lib.hid (show ∀ W', Below W3.heap.size W3 W' → (W'.cell? ⟨w.heap.size, 0, none⟩ = some (.int .i64 q.win) ∧ W'.cell? ⟨w.heap.size, 1, none⟩ = some (.int .i64 q.draw) ∧ W'.cell? ⟨w.heap.size, 2, none⟩ = some (.slice cA q.clubs.length cc) ∧ W'.cell? ⟨w.heap.size, 3, none⟩ = some (.slice pA q.points.length pc) ∧ W'.cell? ⟨w.heap.size, 4, none⟩ = some (.slice oA q.opn.length oc) ∧ W'.cell? ⟨w.heap.size, 5, none⟩ = some (.int .i64 q.club) ∧ W'.cell? ⟨w.heap.size, 6, none⟩ = some (.int .i64 q.place)) from fun W' h => by
    have e0 := (h.block _ (lt_heap k0)).trans k0
    exact ⟨cell_of e0 rfl, cell_of e0 rfl, cell_of e0 rfl, cell_of e0 rfl, cell_of e0 rfl, cell_of e0 rfl, cell_of e0 rfl⟩)
  clear k0
  have CF := Lib.hid (show ∀ W', Below W3.heap.size W3 W' → Calls Try.prog 29 #[.agg #[.int .i64 q.win, .int .i64 q.draw, .slice cA q.clubs.length cc, .slice pA q.points.length pc, .slice oA q.opn.length oc, .int .i64 q.club, .int .i64 q.place], .slice uA q.opn.length uc] W' (FinW W' (finR q outs)) from fun W' h => by
    have x := rfin_any W' M M' _ _ q outs (HR.out.below (HB3.out.trans (h.mono HB3.out.size))) (IsSl.below HU.out (HB3.out.trans (h.mono HB3.out.size))) HV.out HCO.out
    rw [HLE.out] at x
    exact x)
  have HFL := Lib.hid (show (finR q outs).length = q.clubs.length by unfold finR; rw [finTo_length, HV.out.size.pts])
  go_cut [8, 9] (fun s5 s6 W => s5 = .int .i64 ((moreR q (finR q outs) : Nat) : Int) ∧ s6 = .int .i64 ((manyR q (finR q outs) : Nat) : Int) ∧ Hid (Below W3.heap.size W3 W))
  case first =>
    refine wp_region_held_drew (S := fun W9 => Below W3.heap.size W3 W9) (by kernel_rfl) (Below.drew (Below.refl _ _)) (fun hHeld => ?_)
    change wpAnyH _ _ _ _ _ 10 #[false, false, false, false, false, false, false, false, false, false] _ W3.drew
    refine takeD (i := 0) (d := some 31) (v := ?_) rfl rfl (by kernel_rfl) (by kernel_rfl) (by kernel_rfl) (fun _ _ _ h => h) (Or.inl ⟨by rfl, ?_⟩) hHeld ?_
    rotate_left 1
    focus (intro w hSw; (try dsimp only at hSw); obtain ⟨e0, e1, e2, e3, e4, e5, e6⟩ := HC.out w hSw; go_simp; (try with_reducible rfl))
    (repeat (first | simp only [Act.put] | simp only [List.setIfInBounds_toArray] | simp only [List.set_cons_zero] | simp only [List.set_cons_succ]))
    refine takeD (i := 1) (d := some 32) (v := ?_) rfl rfl (by kernel_rfl) (by kernel_rfl) (by kernel_rfl) (fun _ _ _ h => h) (Or.inl ⟨by rfl, ?_⟩) hHeld ?_
    rotate_left 1
    focus (intro w hSw; (try dsimp only at hSw); obtain ⟨e0, e1, e2, e3, e4, e5, e6⟩ := HC.out w hSw; go_simp; (try with_reducible rfl))
    (repeat (first | simp only [Act.put] | simp only [List.setIfInBounds_toArray] | simp only [List.set_cons_zero] | simp only [List.set_cons_succ]))
    refine takeD (i := 2) (d := some 33) (v := ?_) rfl rfl (by kernel_rfl) (by kernel_rfl) (by kernel_rfl) (fun _ _ _ h => h) (Or.inl ⟨by rfl, ?_⟩) hHeld ?_
    rotate_left 1
    focus (intro w hSw; (try dsimp only at hSw); go_simp; (try with_reducible rfl))
    (repeat (first | simp only [Act.put] | simp only [List.setIfInBounds_toArray] | simp only [List.set_cons_zero] | simp only [List.set_cons_succ]))
    refine wpAnyH_ready (rs := [3]) (by kernel_rfl) (by simp) ?_
    refine AllReadyH.cons rfl (fun K hK => ?_) AllReadyH.nil
    go_simp
    go_at_call 29
    refine (CF.out _ (by repeat (first | with_reducible exact Below.refl _ _ | with_reducible exact HB9.out | (with_reducible refine Below.drew ?_)))).mono ?_
    rintro e w9 ⟨A9, d9, rfl, hown9, hb9⟩
    have HO9 := Lib.hid (IsInts.ofOwn hown9)
    have HB9 : Hid (Below W3.heap.size W3 w9) := Lib.hid ((show Below W3.heap.size W3 _ from (by repeat (first | with_reducible exact Below.refl _ _ | with_reducible exact HB9.out | (with_reducible refine Below.drew ?_)))).trans (hb9.mono (show W3.heap.size ≤ _ from (show Below W3.heap.size W3 _ from (by repeat (first | with_reducible exact Below.refl _ _ | with_reducible exact HB9.out | (with_reducible refine Below.drew ?_)))).size)))
    clear hb9 hown9
    refine hK.out _ _ ((by repeat (first | with_reducible exact Below.refl _ _ | with_reducible exact HB9.out | (with_reducible refine Below.drew ?_)))) (fun hHeld => ?_)
    clear hK K
    (repeat (first | simp only [Act.put] | simp only [List.setIfInBounds_toArray] | simp only [List.set_cons_zero] | simp only [List.set_cons_succ]))
    refine wpAnyH_ready (rs := [4]) (by kernel_rfl) (by simp) ?_
    refine AllReadyH.cons rfl (fun K hK => ?_) AllReadyH.nil
    go_simp
    go_at_call 22
    refine (rabove_any _ M _ _ _ q (finR q outs) (HR.out.below (HB3.out.trans ((show Below W3.heap.size W3 _ from (by repeat (first | with_reducible exact Below.refl _ _ | with_reducible exact HB9.out | (with_reducible refine Below.drew ?_)))).mono HB3.out.size))) HO9.out (by rw [HFL.out]; omega) (by rw [HFL.out]; exact ⟨HV.out.size.c0, HV.out.size.cn⟩)).mono ?_
    rintro e w10 ⟨rfl, hb9⟩
    have HBn : Hid (Below W3.heap.size W3 w10) := Lib.hid (HB9.out.trans (hb9.mono HB9.out.size))
    clear hb9 HB9 HO9
    have HB9 := HBn
    clear HBn
    refine hK.out _ _ ((by repeat (first | with_reducible exact Below.refl _ _ | with_reducible exact HB9.out | (with_reducible refine Below.drew ?_)))) (fun hHeld => ?_)
    clear hK K
    (repeat (first | simp only [Act.put] | simp only [List.setIfInBounds_toArray] | simp only [List.set_cons_zero] | simp only [List.set_cons_succ]))
    refine takeD (i := 5) (d := some 30) (v := ?_) rfl rfl (by kernel_rfl) (by kernel_rfl) (by kernel_rfl) (fun _ _ _ h => h) (Or.inl ⟨by rfl, ?_⟩) hHeld ?_
    rotate_left 1
    focus (intro w hSw; (try dsimp only at hSw); go_simp; (try with_reducible rfl))
    (repeat (first | simp only [Act.put] | simp only [List.setIfInBounds_toArray] | simp only [List.set_cons_zero] | simp only [List.set_cons_succ]))
    refine takeD (i := 6) (d := some 36) (v := ?_) rfl rfl (by kernel_rfl) (by kernel_rfl) (by kernel_rfl) (fun _ _ _ h => h) (Or.inl ⟨by rfl, ?_⟩) hHeld ?_
    rotate_left 1
    focus (intro w hSw; (try dsimp only at hSw); go_simp; (try with_reducible rfl))
    (repeat (first | simp only [Act.put] | simp only [List.setIfInBounds_toArray] | simp only [List.set_cons_zero] | simp only [List.set_cons_succ]))
    refine takeD (i := 7) (d := some 37) (v := ?_) rfl rfl (by kernel_rfl) (by kernel_rfl) (by kernel_rfl) (fun _ _ _ h => h) (Or.inl ⟨by rfl, ?_⟩) hHeld ?_
    rotate_left 1
    focus (intro w hSw; (try dsimp only at hSw); go_simp; (try with_reducible rfl))
    (repeat (first | simp only [Act.put] | simp only [List.setIfInBounds_toArray] | simp only [List.set_cons_zero] | simp only [List.set_cons_succ]))
    refine takeD (i := 8) (d := some 8) (v := ?_) rfl rfl (by kernel_rfl) (by kernel_rfl) (by kernel_rfl) (fun _ _ _ h => h) (Or.inl ⟨by rfl, ?_⟩) hHeld ?_
    rotate_left 1
    focus (intro w hSw; (try dsimp only at hSw); go_simp; (try with_reducible rfl))
    (repeat (first | simp only [Act.put] | simp only [List.setIfInBounds_toArray] | simp only [List.set_cons_zero] | simp only [List.set_cons_succ]))
    refine takeD (i := 9) (d := some 9) (v := ?_) rfl rfl (by kernel_rfl) (by kernel_rfl) (by kernel_rfl) (fun _ _ _ h => h) (Or.inl ⟨by rfl, ?_⟩) hHeld ?_
    rotate_left 1
    focus (intro w hSw; (try dsimp only at hSw); go_simp; (try with_reducible rfl))
    (repeat (first | simp only [Act.put] | simp only [List.setIfInBounds_toArray] | simp only [List.set_cons_zero] | simp only [List.set_cons_succ]))
    refine wpAnyH_done (by kernel_rfl) ?_ _
    go_wp2_with fail
    go_meet
    case rel => exact ⟨rfl, rfl, Lib.hid (by repeat (first | with_reducible exact HB9.out | (with_reducible refine Below.drew ?_)))⟩
  case rest =>
    obtain ⟨rfl, rfl, HB9⟩ := hcut
    obtain ⟨e0, e1, e2, e3, e4, e5, e6⟩ := HC.out _ HB9.out
    have HBF := Lib.hid (HB3.out.trans (HB9.out.mono HB3.out.size))
    have HZ2 := Lib.hid (show z = if certain then !decide (q.place ≤ (manyR q (finR q outs) : Int)) else decide (q.place ≤ (moreR q (finR q outs) : Int)) by rw [HZ.out]; rfl)
    obtain ⟨more, hmo⟩ : ∃ x, x = moreR q (finR q outs) := ⟨_, rfl⟩
    obtain ⟨many, hma⟩ : ∃ x, x = manyR q (finR q outs) := ⟨_, rfl⟩
    rw [← hmo, ← hma] at HZ2 ⊢
    clear hmo hma CF HZ
    cases certain
    · by_cases t : q.place ≤ (more : Int)
      · have d1 : decide (q.place ≤ (more : Int)) = true := decide_eq_true t
        have HQ := Lib.hid (show z = true by rw [HZ2.out, d1]; rfl)
        clear t
        go_wp2_with fail
        go_ret
        exact ⟨ret_bool HQ.out.symm, HBF.out⟩
      · have d1 : decide (q.place ≤ (more : Int)) = false := decide_eq_false t
        have HQ := Lib.hid (show z = false by rw [HZ2.out, d1]; rfl)
        clear t
        go_wp2_with fail
        go_ret
        exact ⟨ret_bool HQ.out.symm, HBF.out⟩
    · by_cases t : q.place ≤ (many : Int)
      · have d1 : decide ((many : Int) ≤ q.place - 1) = false := decide_eq_false (by omega)
        have d2 : decide ((many : Int) < q.place) = false := decide_eq_false (by omega)
        have HQ := Lib.hid (show z = false by rw [HZ2.out, decide_eq_true t]; rfl)
        clear t
        go_wp2_with fail
        go_ret
        exact ⟨ret_bool HQ.out.symm, HBF.out⟩
      · have d1 : decide ((many : Int) ≤ q.place - 1) = true := decide_eq_true (by omega)
        have d2 : decide ((many : Int) < q.place) = true := decide_eq_true (by omega)
        have HQ := Lib.hid (show z = true by rw [HZ2.out, decide_eq_false t]; rfl)
        clear t
        go_wp2_with fail
        go_ret
        exact ⟨ret_bool HQ.out.symm, HBF.out⟩
end Go.Proofs.Ythlnfjbedehjdaa
