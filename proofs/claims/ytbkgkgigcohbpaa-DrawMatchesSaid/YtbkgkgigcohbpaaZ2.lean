import Derived.Test.YtbkgkgigcohbpaaZ1
import Derived.Test.YtbkgkgigcohbpaaAp
import Derived.Deep.RegionHeld3
import Derived.Deep.DeepCutAuto
import Derived.Test.YtbkgkgigcohbpaaRep
import Derived.Test.YtbkgkgigcohbpaaMp
import Derived.Laws.EntriesVeiled
/- The order of edges: cmp.Compare, cmp.Or, order. -/
namespace Go.Proofs.Ytbkgkgigcohbpaa
open Go.RowKit
/-- comparison of ints -/
def cmpI (x y : Int) : Int := if x < y then -1 else if y < x then 1 else 0
theorem cmpI_lt {x y : Int} (h : x < y) : cmpI x y = -1 := if_pos h
theorem cmpI_gt {x y : Int} (h : y < x) : cmpI x y = 1 := by unfold cmpI; rw [if_neg (by omega), if_pos h]
theorem cmpI_eq (x : Int) : cmpI x x = 0 := by unfold cmpI; rw [if_neg (by omega), if_neg (by omega)]
/-- the first that is not 0 -/
def orI (a b : Int) : Int := if a = 0 then b else a
theorem ordE_cmp (a b : Int × Int) : ordE a b = orI (cmpI a.1 b.1) (cmpI a.2 b.2) := by
  unfold ordE orI cmpI
  repeat' split
  all_goals omega
theorem isNaN_any (w : World) (x : Int) : Calls Try.prog 49 #[.int .i64 x] w fun e w' => e = .returned (.bool false) ∧ w = w' := by
  have hx : (x != x) = false := by simp
  go_enter Try.func49, Try.ntmps49
  go_wp2_with fail
  go_ret
  exact ⟨rfl, rfl⟩
theorem compare_any (w : World) (x y : Int) : Calls Try.prog 46 #[.int .i64 x, .int .i64 y] w fun e w' => e = .returned (.int .i64 (cmpI x y)) ∧ w = w' := by
  have C := fun z => Lib.hid (isNaN_any w z)
  rcases Int.lt_trichotomy x y with h | h | h
  · have HE := Lib.hid (cmpI_lt h)
    go_enter Try.func46, Try.ntmps46
    go_wp2_with (with_reducible refine (C _).out.mono ?_; rintro e w' ⟨rfl, rfl⟩)
    go_ret
    exact ⟨ret_int HE.out.symm, rfl⟩
  · subst h
    have HE := Lib.hid (cmpI_eq x)
    have h1 : ¬ x < x := by omega
    go_enter Try.func46, Try.ntmps46
    go_wp2_with (with_reducible refine (C _).out.mono ?_; rintro e w' ⟨rfl, rfl⟩)
    go_ret
    exact ⟨ret_int HE.out.symm, rfl⟩
  · have HE := Lib.hid (cmpI_gt h)
    have h1 : ¬ x < y := by omega
    go_enter Try.func46, Try.ntmps46
    go_wp2_with (with_reducible refine (C _).out.mono ?_; rintro e w' ⟨rfl, rfl⟩)
    go_ret
    exact ⟨ret_int HE.out.symm, rfl⟩
theorem or_any (w : World) (g : Nat) (a b : Int) (h0 : w.cell? ⟨g, 0, none⟩ = some (.int .i64 a)) (h1 : w.cell? ⟨g, 1, none⟩ = some (.int .i64 b)) :
    Calls Try.prog 45 #[.slice (some ⟨g, 0, none⟩) 2 2] w fun e w' => e = .returned (.int .i64 (orI a b)) ∧ w = w' := by
  have HE : Hid (∀ z : Int, (a ≠ 0 → z = a) → (a = 0 → z = b) → z = orI a b) := Lib.hid fun z h1 h2 => by
    unfold orI
    split
    · next h => exact h2 h
    · next h => exact h1 h
  go_enter Try.func45, Try.ntmps45
  go_wp2_with fail
  go_loop [8] (fun t => ∃ k : Nat, t = .int .i64 k ∧ (k = 0 ∨ (k = 1 ∧ Hid (a = 0)) ∨ (k = 2 ∧ Hid (a = 0 ∧ b = 0)))) (fun t => 2 - (intOf t).toNat)
  case atStart => exact ⟨0, rfl, .inl rfl⟩
  case round =>
    obtain ⟨k, rfl, hk⟩ := hrel
    rcases hk with rfl | ⟨rfl, H⟩ | ⟨rfl, H⟩
    · by_cases ha : a = 0
      · have HA := Lib.hid ha
        have ht : (a != 0) = false := by simp [ha]
        clear ha
        go_wp2_with fail
        go_round
        case rel => exact ⟨1, rfl, .inr (.inl ⟨rfl, HA⟩)⟩
        case measure => simp [intOf]
      · have HA := Lib.hid (HE.out a (fun _ => rfl) (fun e => absurd e ha))
        have ht : (a != 0) = true := by simpa using ha
        clear ha
        go_wp2_with fail
        go_ret
        exact ⟨ret_int HA.out, rfl⟩
    · by_cases hb : b = 0
      · have HA := Lib.hid (And.intro H.out hb)
        have ht : (b != 0) = false := by simp [hb]
        clear hb
        go_wp2_with fail
        go_round
        case rel => exact ⟨2, rfl, .inr (.inr ⟨rfl, HA⟩)⟩
        case measure => simp [intOf]
      · have HA := Lib.hid (HE.out b (fun e => absurd H.out e) (fun _ => rfl))
        have ht : (b != 0) = true := by simpa using hb
        clear hb
        go_wp2_with fail
        go_ret
        exact ⟨ret_int HA.out, rfl⟩
    · have HA := Lib.hid (HE.out 0 (fun e => absurd H.out.1 e) (fun _ => H.out.2.symm))
      go_wp2_with fail
      go_ret
      exact ⟨ret_int HA.out, rfl⟩
theorem order_any (w : World) (a b : Int × Int) : Calls Try.prog 41 #[.agg #[.int .i64 a.1, .int .i64 a.2], .agg #[.int .i64 b.1, .int .i64 b.2]] w fun e w' => e = .returned (.int .i64 (ordE a b)) ∧ Below w.heap.size w w' := by
  obtain ⟨a1, a2⟩ := a
  obtain ⟨b1, b2⟩ := b
  rw [ordE_cmp]
  dsimp only
  obtain ⟨c1, hc1⟩ : ∃ c, c = cmpI a1 b1 := ⟨_, rfl⟩
  obtain ⟨c2, hc2⟩ : ∃ c, c = cmpI a2 b2 := ⟨_, rfl⟩
  have C1 := fun W => Lib.hid (compare_any W a1 b1)
  have C2 := fun W => Lib.hid (compare_any W a2 b2)
  rw [← hc1] at C1
  rw [← hc2] at C2
  rw [← hc1, ← hc2]
  clear hc1 hc2
  go_enter Try.func41, Try.ntmps41
  go_wp2_with fail
  go_region_held3 (fun w' => w'.cell? ⟨w.heap.size, 0, none⟩ = some (.int .i64 a1) ∧ w'.cell? ⟨w.heap.size, 1, none⟩ = some (.int .i64 a2) ∧ w'.cell? ⟨w.heap.size + 1, 0, none⟩ = some (.int .i64 b1) ∧ w'.cell? ⟨w.heap.size + 1, 1, none⟩ = some (.int .i64 b2)) (go_keep) (first | (go_at_call 46; (first | (with_reducible refine (C1 _).out.mono ?_) | (with_reducible refine (C2 _).out.mono ?_)); rintro e w' ⟨rfl, rfl⟩) | (go_at_call 45; refine (or_any _ _ c1 c2 ?_ ?_).mono ?_; (focus (refine cell_of (t := 3) (z := (0, 0)) (cs := #[.int .i64 c1, .int .i64 c2]) ?_ rfl; show (World.alloc _ _).heap[_]? = _; rw [heap_alloc_if, if_pos (by simp)])); (focus (refine cell_of (t := 3) (z := (0, 0)) (cs := #[.int .i64 c1, .int .i64 c2]) ?_ rfl; show (World.alloc _ _).heap[_]? = _; rw [heap_alloc_if, if_pos (by simp)])); rintro e w' ⟨rfl, rfl⟩))
  all_goals go_wp2_with fail
  all_goals go_ret
  all_goals exact ⟨rfl, by repeat (first | exact Below.refl _ _ | refine Below.drew ?_ | refine Below.alloc ?_ (by first | exact Nat.le_refl _ | (simp; done) | (simp; omega)) _)⟩
end Go.Proofs.Ytbkgkgigcohbpaa
/- slices.BinarySearchFunc on edges. -/
namespace Go.Proofs.Ytbkgkgigcohbpaa
open Go.RowKit
/-- the middle: the word of the code -/
theorem mid_word {i j : Nat} (hi : i ≤ j) (hj : j ≤ 4096) : IntKind.i64.wrap (IntKind.u64.wrap (IntKind.u64.wrap ((i : Int) + (j : Int)) / 2)) = (((i + j) / 2 : Nat) : Int) := by
  unfold IntKind.wrap IntKind.bits IntKind.signed
  simp
  omega
theorem ret_tup {i : Int} {a b : Bool} (h : a = b) : Ending.returned (.tuple #[.int .i64 i, .bool a]) = .returned (.tuple #[.int .i64 i, .bool b]) := by rw [h]
def SrchW (l : List (Int × Int)) (t : Int × Int) (w : World) (e : Ending) (w' : World) : Prop := ∃ i : Nat, IsLow l t i ∧ e = .returned (.tuple #[.int .i64 (i : Int), .bool (l.contains t)]) ∧ Below w.heap.size w w'
set_option maxHeartbeats 1000000 in
theorem search_any (w : World) (M : Nat → Prop) (v : Value) (l : List (Int × Int)) (h : IsEdges w M v l) (hs : SrtE l) (hlen : l.length ≤ 4096) (t : Int × Int) :
    Calls Try.prog 48 #[v, .agg #[.int .i64 t.1, .int .i64 t.2], .func (.func 41) #[] #[]] w (SrchW l t w) := by
  have H := Lib.hid h
  have HS := Lib.hid hs
  obtain ⟨A, c, rfl, h1, h2, -⟩ := h
  clear hs
  go_enter Try.func48, Try.ntmps48
  go_wp2_with fail
  go_loopw [9, 10] (fun q9 q10 wr => ∃ i j : Nat, q9 = .int .i64 (i : Int) ∧ q10 = .int .i64 (j : Int) ∧ i ≤ j ∧ j ≤ l.length ∧ Hid (Srch l t i j) ∧ Hid (Below w.heap.size w wr) ∧ wr.heap[w.heap.size]? = some (.cells #[.int .i64 t.1, .int .i64 t.2] 47 (0, 0))) (fun q9 q10 _ => (intOf q10).toNat - (intOf q9).toNat)
  case atStart => exact ⟨0, l.length, rfl, rfl, Nat.zero_le _, Nat.le_refl _, Lib.hid (Srch.start _ _), Lib.hid ((Below.refl w.heap.size w).alloc (Nat.le_refl _) _), by simp only [heap_alloc_if]; rw [if_pos trivial]⟩
  case round =>
    obtain ⟨i, j, rfl, rfl, hij, hjl, HR, HB, hbox⟩ := hrel
    have HX := Lib.hid hbox
    have hbl := lt_heap hbox
    have c0 := cell_of (j := 0) hbox rfl
    have c1 := cell_of (j := 1) hbox rfl
    clear hbox
    by_cases hlt : i < j
    · obtain ⟨m, hm⟩ : ∃ m, m = (i + j) / 2 := ⟨_, rfl⟩
      have hmid : ((i : Int) + (j : Int)) / 2 = (m : Int) := by omega
      have him : i ≤ m := by omega
      have hmj : m < j := by omega
      clear hm
      have hml : m < l.length := by omega
      have hml2 : (m : Int) < (l.length : Int) := by omega
      have hm0 : (0 : Int) ≤ (m : Int) := by omega
      obtain ⟨b, off, rfl, hb, e0, e1⟩ := H.out.at_ HB.out hml
      rw [← nthE_get hml] at e0 e1
      have HU := Lib.hid (fun k => HR.out.up HS.out hmj k)
      have HD := Lib.hid (fun k => HR.out.down HS.out him hmj k)
      obtain ⟨a, ha⟩ : ∃ a, a = nthE l m := ⟨_, rfl⟩
      rw [← ha] at e0 e1 HU HD
      have CO := fun W => Lib.hid (order_any W a t)
      obtain ⟨r, hr⟩ : ∃ r, r = ordE a t := ⟨_, rfl⟩
      rw [← hr] at HU HD CO
      clear ha hr
      have hbw : b < wr.heap.size := Nat.lt_of_lt_of_le hb HB.out.size
      by_cases hr0 : r < 0
      · have HN := Lib.hid (HU.out hr0)
        go_wp2_with fail
        go_region_held3 (fun w' => w'.cell? ⟨b, off + m * 2, none⟩ = some (.int .i64 a.1) ∧ w'.cell? ⟨b, off + m * 2 + 1, none⟩ = some (.int .i64 a.2) ∧ w'.cell? ⟨w.heap.size, 0, none⟩ = some (.int .i64 t.1) ∧ w'.cell? ⟨w.heap.size, 1, none⟩ = some (.int .i64 t.2)) (first | with_reducible exact ⟨e0, e1, c0, c1⟩ | with_reducible exact ⟨s0, s1, s2, s3⟩ | go_keep) ((go_at_call 41; refine (CO _).out.mono ?_; rintro e w9 ⟨rfl, hb9⟩; have hB9 : Below wr.heap.size wr w9 := Below.trans (by repeat (first | exact Below.refl _ _ | refine Below.drew ?_)) (hb9.mono (by first | exact Nat.le_refl _ | (simp; done))); have s0 := (hB9.cell (p := ⟨b, off + m * 2, none⟩) hbw).trans e0; have s1 := (hB9.cell (p := ⟨b, off + m * 2 + 1, none⟩) hbw).trans e1; have s2 := (hB9.cell (p := ⟨w.heap.size, 0, none⟩) hbl).trans c0; have s3 := (hB9.cell (p := ⟨w.heap.size, 1, none⟩) hbl).trans c1; have HB9 := Lib.hid hB9; clear hb9 hB9))
        have HBF := Lib.hid (HB.out.trans (HB9.out.mono HB.out.size))
        have hxf := (HB9.out.block w.heap.size hbl).trans HX.out
        clear HB9 HB HX s0 s1 s2 s3 c0 c1 e0 e1 CO HU HD
        go_wp2_with fail
        go_roundw
        case rel => exact ⟨m + 1, j, by go_num, rfl, by omega, hjl, HN, HBF, hxf⟩
        case measure => simp [intOf]; omega
      · have HN := Lib.hid (HD.out hr0)
        have hr1 : ¬ r < 0 := hr0
        go_wp2_with fail
        go_region_held3 (fun w' => w'.cell? ⟨b, off + m * 2, none⟩ = some (.int .i64 a.1) ∧ w'.cell? ⟨b, off + m * 2 + 1, none⟩ = some (.int .i64 a.2) ∧ w'.cell? ⟨w.heap.size, 0, none⟩ = some (.int .i64 t.1) ∧ w'.cell? ⟨w.heap.size, 1, none⟩ = some (.int .i64 t.2)) (first | with_reducible exact ⟨e0, e1, c0, c1⟩ | with_reducible exact ⟨s0, s1, s2, s3⟩ | go_keep) ((go_at_call 41; refine (CO _).out.mono ?_; rintro e w9 ⟨rfl, hb9⟩; have hB9 : Below wr.heap.size wr w9 := Below.trans (by repeat (first | exact Below.refl _ _ | refine Below.drew ?_)) (hb9.mono (by first | exact Nat.le_refl _ | (simp; done))); have s0 := (hB9.cell (p := ⟨b, off + m * 2, none⟩) hbw).trans e0; have s1 := (hB9.cell (p := ⟨b, off + m * 2 + 1, none⟩) hbw).trans e1; have s2 := (hB9.cell (p := ⟨w.heap.size, 0, none⟩) hbl).trans c0; have s3 := (hB9.cell (p := ⟨w.heap.size, 1, none⟩) hbl).trans c1; have HB9 := Lib.hid hB9; clear hb9 hB9))
        have HBF := Lib.hid (HB.out.trans (HB9.out.mono HB.out.size))
        have hxf := (HB9.out.block w.heap.size hbl).trans HX.out
        clear HB9 HB HX s0 s1 s2 s3 c0 c1 e0 e1 CO HU HD
        go_wp2_with fail
        go_roundw
        case rel => exact ⟨i, m, rfl, rfl, him, by omega, HN, HBF, hxf⟩
        case measure => simp [intOf]; omega
    · obtain rfl : i = j := by omega
      have hnlt : ¬ (i : Int) < (i : Int) := by omega
      have HL := Lib.hid HR.out.low
      by_cases hil : i < l.length
      · obtain ⟨b, off, rfl, hb, e0, e1⟩ := H.out.at_ HB.out hil
        have hil2 : (i : Int) < (l.length : Int) := by omega
        have hdl : decide ((i : Int) < (l.length : Int)) = true := decide_eq_true hil2
        have hi0 : (0 : Int) ≤ (i : Int) := by omega
        rw [← nthE_get hil] at e0 e1
        have HY := Lib.hid (fun e => IsLow.yes (t := t) hil e)
        have HNo := Lib.hid (fun e => HL.out.no HS.out (fun _ => e))
        obtain ⟨a, ha⟩ : ∃ a, a = nthE l i := ⟨_, rfl⟩
        rw [← ha] at e0 e1 HY HNo
        have CO := fun W => Lib.hid (order_any W a t)
        obtain ⟨r, hr⟩ : ∃ r, r = ordE a t := ⟨_, rfl⟩
        rw [← hr] at HY HNo CO
        clear ha hr
        have hbw : b < wr.heap.size := Nat.lt_of_lt_of_le hb HB.out.size
        have HF : Hid ((r == 0) = l.contains t) := Lib.hid (by
          by_cases e : r = 0
          · rw [HY.out e, e]; rfl
          · rw [HNo.out e, beq_eq_false_iff_ne]; exact e)
        clear HY HNo hnlt
        go_wp2_with fail
        go_region_held3 (fun w' => w'.cell? ⟨b, off + i * 2, none⟩ = some (.int .i64 a.1) ∧ w'.cell? ⟨b, off + i * 2 + 1, none⟩ = some (.int .i64 a.2) ∧ w'.cell? ⟨w.heap.size, 0, none⟩ = some (.int .i64 t.1) ∧ w'.cell? ⟨w.heap.size, 1, none⟩ = some (.int .i64 t.2)) (first | with_reducible exact ⟨e0, e1, c0, c1⟩ | with_reducible exact ⟨s0, s1, s2, s3⟩ | go_keep) ((go_at_call 41; refine (CO _).out.mono ?_; rintro e w9 ⟨rfl, hb9⟩; have hB9 : Below wr.heap.size wr w9 := Below.trans (by repeat (first | exact Below.refl _ _ | refine Below.drew ?_)) (hb9.mono (by first | exact Nat.le_refl _ | (simp; done))); have s0 := (hB9.cell (p := ⟨b, off + i * 2, none⟩) hbw).trans e0; have s1 := (hB9.cell (p := ⟨b, off + i * 2 + 1, none⟩) hbw).trans e1; have s2 := (hB9.cell (p := ⟨w.heap.size, 0, none⟩) hbl).trans c0; have s3 := (hB9.cell (p := ⟨w.heap.size, 1, none⟩) hbl).trans c1; have HB9 := Lib.hid hB9; clear hb9 hB9))
        have HBF := Lib.hid (HB.out.trans (HB9.out.mono HB.out.size))
        clear HB9 HB HX s0 s1 s2 s3 c0 c1 e0 e1 CO
        go_wp2_with fail
        go_ret2
        exact ⟨i, HL.out, ret_tup HF.out, HBF.out⟩
      · have hil2 : ¬ (i : Int) < (l.length : Int) := by omega
        have hdl : decide ((i : Int) < (l.length : Int)) = false := decide_eq_false hil2
        have HF : Hid (false = l.contains t) := Lib.hid (HL.out.no HS.out (fun e => absurd e hil)).symm
        go_wp2_with fail
        go_quiet (fail)
        go_wp2_with fail
        go_ret2
        exact ⟨i, HL.out, ret_tup HF.out, HB.out.trans (below_drewN (Below.refl _ _) _ |>.mono HB.out.size)⟩
end Go.Proofs.Ytbkgkgigcohbpaa
/- from: the edges of a left vertex. -/
namespace Go.Proofs.Ytbkgkgigcohbpaa
open Go.RowKit
/-- a graph in memory -/
def IsGraph (w : World) (M : Nat → Prop) (v : Value) (g : GrD) : Prop := ∃ v2, v = .agg #[.int .i64 g.left, .int .i64 g.right, v2] ∧ IsEdges w M v2 g.edges
theorem IsGraph.below {w w' : World} {M : Nat → Prop} {v : Value} {g : GrD} (h : IsGraph w M v g) (hb : Below w.heap.size w w') : IsGraph w' M v g := by
  obtain ⟨v2, e, h⟩ := h; exact ⟨v2, e, IsSl.below h hb⟩
theorem IsGraph.keep {w w' : World} {M : Nat → Prop} {v : Value} {g : GrD} (h : IsGraph w M v g) (hk : ∀ p : Addr, M p.block → p.block < w.heap.size → w'.cell? p = w.cell? p) : IsGraph w' M v g := by
  obtain ⟨v2, e, h⟩ := h; exact ⟨v2, e, IsSl.keep h hk⟩
/-- a part of a slice of edges -/
theorem IsEdges.part {w : World} {M : Nat → Prop} {b off n c lo hi c' : Nat} {l : List (Int × Int)} (h : IsEdges w M (.slice (some ⟨b, off, none⟩) n c) l) (h1 : lo < hi) (h2 : hi ≤ l.length) (hc : hi - lo ≤ c') (hc2 : c' ≤ 9223372036854775807) :
    IsEdges w M (.slice (some ⟨b, off + lo * 2, none⟩) (hi - lo) c') ((l.drop lo).take (hi - lo)) := by
  obtain ⟨A', c0, e, h3, h4, h5⟩ := h
  cases e
  have hlen : ((l.drop lo).take (hi - lo)).length = hi - lo := by rw [List.length_take, List.length_drop]; omega
  refine ⟨_, _, by rw [hlen], by rw [hlen]; exact hc, hc2, fun hn => ?_⟩
  obtain ⟨b', off', e, hM, hcl⟩ := h5 (by omega)
  cases e
  refine ⟨b, off + lo * 2, rfl, hM, fun i j hi' hj => ?_⟩
  rw [hlen] at hi'
  have := hcl (lo + i) j (by omega) hj
  rw [show off + lo * 2 + i * 2 + j = off + (lo + i) * 2 + j by omega, this]
  dsimp only
  rw [List.getD_eq_getElem?_getD, List.getD_eq_getElem?_getD, List.getElem?_take_of_lt hi', List.getElem?_drop]
theorem ofV_length (l : List (Int × Int)) (v : Nat) : (ofV l v).length ≤ l.length := List.length_filter_le _ _
def FromW (M : Nat → Prop) (l : List (Int × Int)) (w : World) (e : Ending) (w' : World) : Prop := ∃ A c, e = .returned (.slice A l.length c) ∧ IsEdges w' M (.slice A l.length c) l ∧ Below w.heap.size w w'
set_option maxHeartbeats 1000000 in
theorem from_any (w : World) (M : Nat → Prop) (v : Value) (g : GrD) (h : IsGraph w M v g) {L R : Nat} (hg : GOk g L R) (x : Nat) (hx : x < 1000) :
    Calls Try.prog 44 #[v, .int .i64 x] w (FromW M (ofV g.edges x) w) := by
  obtain ⟨v2, rfl, h⟩ := h
  have H := Lib.hid h
  obtain ⟨A, c, rfl, h1, h2, -⟩ := h
  have HG := Lib.hid hg
  have CS := fun W (hb : Below w.heap.size w W) (t : Int × Int) => Lib.hid (search_any W M _ g.edges (IsSl.below H.out hb) hg.srt hg.len t)
  clear hg
  go_enter Try.func44, Try.ntmps44
  go_wp2_with fail
  refine nameW fun W1 hW1 => ?_
  have HB1 : Hid (Below w.heap.size w W1) := by rw [hW1.out]; exact (Below.refl _ _).alloc (Nat.le_refl _) _
  have k1 : W1.heap[w.heap.size]? = some (.cells #[.int .i64 g.left, .int .i64 g.right, .slice A g.edges.length c] 49 (0, 0)) := (by rw [hW1.out]; simp only [heap_alloc_if]; rw [if_pos trivial])
  clear hW1
  refine (CS W1 HB1.out ((x : Int), 0)).out.mono ?_
  rintro e w2 ⟨lo, hlo, rfl, hb2⟩
  have HLO := Lib.hid hlo
  have k2 := (hb2.block _ (lt_heap k1)).trans k1
  have HB2 := Lib.hid (HB1.out.trans (hb2.mono HB1.out.size))
  have c2 := cell_of (j := 2) k2 rfl
  clear hb2 k1 HB1 hlo
  generalize g.edges.contains ((x : Int), 0) = z0
  go_wp2_with fail
  refine (CS w2 HB2.out ((x : Int) + 1, 0)).out.mono ?_
  rintro e w3 ⟨hi, hhi, rfl, hb3⟩
  have HHI := Lib.hid hhi
  have k3 := (hb3.block _ (lt_heap k2)).trans k2
  have HB3 := Lib.hid (HB2.out.trans (hb3.mono HB2.out.size))
  have hle : lo ≤ hi := low_le HLO.out hhi (.inl (by show (x : Int) < x + 1; omega))
  have hhl := hhi.le
  clear hb3 k2 HB2 c2 hhi
  have c2 := cell_of (j := 2) k3 rfl
  clear k3
  generalize g.edges.contains ((x : Int) + 1, 0) = z1
  have HP := Lib.hid (ofV_part (fun i hi => (HG.out.rng i hi).2.2.1) HLO.out HHI.out)
  have HE3 := Lib.hid (IsSl.below H.out HB3.out : IsEdges w3 M (.slice A g.edges.length c) g.edges)
  clear CS H HG HLO HHI
  rcases Nat.lt_or_ge lo hi with hlt | hge
  · obtain ⟨b, off, rfl, -⟩ : ∃ b off, A = some ⟨b, off, none⟩ ∧ True := by
      obtain ⟨A', c', e, _, _, h3⟩ := HE3.out
      cases e
      obtain ⟨b, off, e, -⟩ := h3 (by omega)
      exact ⟨b, off, e, trivial⟩
    have HF := Lib.hid (IsEdges.part HE3.out hlt hhl (Nat.le_refl (hi - lo)) (by omega))
    rw [← HP.out] at HF
    have hl : (ofV g.edges x).length = hi - lo := by rw [HP.out, List.length_take, List.length_drop]; omega
    have hl2 := Lib.hid hl
    have hne : ¬ hi - lo = 0 := by omega
    have hne2 : ¬ hi = lo := by omega
    clear hl HE3 HP
    go_wp2_with fail
    all_goals first | (exfalso; omega) | skip
    go_ret
    refine ⟨_, hi - lo, Eq.trans (show _ = Ending.returned (.slice (some ⟨b, off + lo * 2, none⟩) (hi - lo) (hi - lo)) from ?_) (by rw [hl2.out]), by rw [hl2.out]; exact HF.out, HB3.out⟩
    simp
  · obtain rfl : lo = hi := by omega
    have hl : Hid (ofV g.edges x = []) := Lib.hid (by rw [HP.out, Nat.sub_self, List.take_zero])
    clear HE3 HP
    go_wp2_with fail
    all_goals first | (exfalso; omega) | skip
    go_ret
    refine ⟨A, 0, by rw [hl.out]; rfl, ?_, HB3.out⟩
    rw [hl.out]
    exact ⟨A, 0, rfl, by simp, by omega, fun h => absurd h (by simp)⟩
end Go.Proofs.Ytbkgkgigcohbpaa
/- Check of package matching. -/
namespace Go.Proofs.Ytbkgkgigcohbpaa
open Go.RowKit
theorem sizeOk_no1 {g : GrD} (h : g.left < 0) : chkB g = false := chk_size (by unfold sizeOk; rw [decide_eq_false (by omega), Bool.false_and])
theorem sizeOk_no2 {g : GrD} (h : 512 < g.left) : chkB g = false := chk_size (by unfold sizeOk; rw [decide_eq_false (p := g.left ≤ 512) (by omega), Bool.false_and, Bool.and_false])
theorem sizeOk_no3 {g : GrD} (h : g.right < 0) : chkB g = false := chk_size (by unfold sizeOk; rw [decide_eq_false (p := 0 ≤ g.right) (by omega), Bool.false_and, Bool.and_false, Bool.and_false])
theorem sizeOk_no4 {g : GrD} (h : 512 < g.right) : chkB g = false := chk_size (by unfold sizeOk; rw [decide_eq_false (p := g.right ≤ 512) (by omega), Bool.false_and, Bool.and_false, Bool.and_false, Bool.and_false])
theorem sizeOk_no5 {g : GrD} (h : 4096 < g.edges.length) : chkB g = false := chk_size (by unfold sizeOk; rw [decide_eq_false (p := g.edges.length ≤ 4096) (by omega), Bool.and_false, Bool.and_false, Bool.and_false, Bool.and_false])
theorem sizeOk_yes {g : GrD} (h1 : ¬ g.left < 0) (h2 : ¬ 512 < g.left) (h3 : ¬ g.right < 0) (h4 : ¬ 512 < g.right) (h5 : ¬ 4096 < g.edges.length) : sizeOk g = true := by
  unfold sizeOk
  simp only [Bool.and_eq_true, decide_eq_true_eq]
  omega
def RetE (z : Int) (w : World) (e : Ending) (w' : World) : Prop := e = .returned (.int .i64 z) ∧ Below w.heap.size w w'
set_option maxHeartbeats 1000000 in
theorem mcheck_any (w : World) (M : Nat → Prop) (v : Value) (g : GrD) (h : IsGraph w M v g) : Calls Try.prog 35 #[v] w (RetE (chkG g) w) := by
  obtain ⟨v2, rfl, h⟩ := h
  have H := Lib.hid h
  obtain ⟨A, c, rfl, h1, h2, -⟩ := h
  have HNo := Lib.hid (@chkG_no g)
  have HYes := Lib.hid (@chkG_yes g)
  obtain ⟨z, hz⟩ : ∃ z, z = chkG g := ⟨_, rfl⟩
  rw [← hz] at HNo HYes ⊢
  clear hz
  obtain ⟨L, hL⟩ : ∃ L, L = g.left := ⟨_, rfl⟩
  obtain ⟨R, hR⟩ : ∃ R, R = g.right := ⟨_, rfl⟩
  rw [← hL, ← hR]
  by_cases t1 : L < 0
  · have HZ := Lib.hid (HNo.out (sizeOk_no1 (hL ▸ t1)))
    clear hL hR
    go_enter Try.func35, Try.ntmps35
    go_wp2_with fail
    go_ret
    exact ⟨ret_int HZ.out.symm, (Below.refl _ _).alloc (Nat.le_refl _) _⟩
  by_cases t2 : 512 < L
  · have HZ := Lib.hid (HNo.out (sizeOk_no2 (hL ▸ t2)))
    clear hL hR
    go_enter Try.func35, Try.ntmps35
    go_wp2_with fail
    go_ret
    exact ⟨ret_int HZ.out.symm, (Below.refl _ _).alloc (Nat.le_refl _) _⟩
  by_cases t3 : R < 0
  · have HZ := Lib.hid (HNo.out (sizeOk_no3 (hR ▸ t3)))
    clear hL hR
    go_enter Try.func35, Try.ntmps35
    go_wp2_with fail
    go_ret
    exact ⟨ret_int HZ.out.symm, (Below.refl _ _).alloc (Nat.le_refl _) _⟩
  by_cases t4 : 512 < R
  · have HZ := Lib.hid (HNo.out (sizeOk_no4 (hR ▸ t4)))
    clear hL hR
    go_enter Try.func35, Try.ntmps35
    go_wp2_with fail
    go_ret
    exact ⟨ret_int HZ.out.symm, (Below.refl _ _).alloc (Nat.le_refl _) _⟩
  by_cases t5 : (4096 : Int) < (g.edges.length : Int)
  · have HZ := Lib.hid (HNo.out (sizeOk_no5 (by omega)))
    clear hL hR
    go_enter Try.func35, Try.ntmps35
    go_wp2_with fail
    go_ret
    exact ⟨ret_int HZ.out.symm, (Below.refl _ _).alloc (Nat.le_refl _) _⟩
  have HSZ := Lib.hid (sizeOk_yes (hL ▸ t1) (hL ▸ t2) (hR ▸ t3) (hR ▸ t4) (by omega))
  have HEdge := fun k (hk : k < g.edges.length) (h : okE g k = false) => Lib.hid (HNo.out (chk_no hk h))
  have HOK : ∀ k, Hid (okE g k = (decide (0 ≤ (nthE g.edges k).1) && (decide ((nthE g.edges k).1 < L) && (decide (0 ≤ (nthE g.edges k).2) && (decide ((nthE g.edges k).2 < R) && (decide (k = 0) || decide (ordE (nthE g.edges (k - 1)) (nthE g.edges k) < 0))))))) := fun k => Lib.hid (by rw [hL, hR]; rfl)
  have HLR := Lib.hid (And.intro hL hR)
  clear hL hR
  go_enter Try.func35, Try.ntmps35
  go_wp2_with fail
  go_loopw [32] (fun q32 wr => ∃ k : Nat, k ≤ g.edges.length ∧ q32 = .int .i64 (k : Int) ∧ Hid (okTo g k) ∧ Hid (Below w.heap.size w wr) ∧ wr.heap[w.heap.size]? = some (.cells #[.int .i64 L, .int .i64 R, .slice A g.edges.length c] 49 (0, 0))) (fun q _ => g.edges.length - (intOf q).toNat)
  case atStart => exact ⟨0, Nat.zero_le _, rfl, Lib.hid okTo_zero, Lib.hid ((Below.refl w.heap.size w).alloc (Nat.le_refl _) _), by simp only [heap_alloc_if]; rw [if_pos trivial]⟩
  case round =>
    obtain ⟨k, hk, rfl, HT, HB, hbox⟩ := hrel
    have HX := Lib.hid hbox
    have hbl := lt_heap hbox
    have g0 := cell_of (j := 0) hbox rfl
    have g1 := cell_of (j := 1) hbox rfl
    have g2 := cell_of (j := 2) hbox rfl
    clear hbox
    by_cases hlt : k < g.edges.length
    · have hlt2 : (k : Int) < (g.edges.length : Int) := by omega
      have hk0 : (0 : Int) ≤ (k : Int) := by omega
      obtain ⟨b, off, rfl, hb, e0, e1⟩ := H.out.at_ HB.out hlt
      rw [← nthE_get hlt] at e0 e1
      have hbw : b < wr.heap.size := Nat.lt_of_lt_of_le hb HB.out.size
      have HE := HEdge k hlt
      have HO := HOK k
      have HS := Lib.hid (okTo_succ HT.out (k := k))
      have CO := fun W => Lib.hid (order_any W (nthE g.edges (k - 1)) (nthE g.edges k))
      have HPrev : Hid (0 < k → wr.cell? ⟨b, off + (k - 1) * 2, none⟩ = some (.int .i64 (nthE g.edges (k - 1)).1) ∧ wr.cell? ⟨b, off + (k - 1) * 2 + 1, none⟩ = some (.int .i64 (nthE g.edges (k - 1)).2)) := Lib.hid (fun h0 => by
        obtain ⟨b', off', e, -, p0, p1⟩ := H.out.at_ HB.out (show k - 1 < g.edges.length by omega)
        cases e
        rw [nthE_get (by omega)]
        exact ⟨p0, p1⟩)
      obtain ⟨a, ha⟩ : ∃ a, a = nthE g.edges k := ⟨_, rfl⟩
      obtain ⟨p, hp⟩ : ∃ p, p = nthE g.edges (k - 1) := ⟨_, rfl⟩
      rw [← ha] at e0 e1 HO CO
      rw [← hp] at HO CO HPrev
      obtain ⟨x, y⟩ := a
      obtain ⟨px, py⟩ := p
      clear ha hp HEdge HOK
      dsimp only at e0 e1 HO CO HPrev
      by_cases s0 : x < 0
      · have ds0 : decide (x < 0) = true := decide_eq_true s0
        have HZ := HE (by rw [HO.out, decide_eq_false (p := 0 ≤ x) (by omega)]; simp)
        go_wp2_with fail
        go_quiet (fail)
        go_wp2_with fail
        go_ret
        exact ⟨ret_int HZ.out.symm, HB.out.trans (Below.mono (by repeat (first | exact Below.refl _ _ | refine Below.drew ?_ | refine below_drewN ?_ _ | refine Below.alloc ?_ (by first | exact Nat.le_refl _ | (simp; done) | (simp; omega)) _)) HB.out.size)⟩
      have ds0 : decide (x < 0) = false := decide_eq_false s0
      by_cases s1 : L ≤ x
      · have ds1 : decide (L ≤ x) = true := decide_eq_true s1
        have HZ := HE (by rw [HO.out, decide_eq_false (p := x < L) (by omega)]; simp)
        go_wp2_with fail
        go_quiet (fail)
        go_wp2_with fail
        go_ret
        exact ⟨ret_int HZ.out.symm, HB.out.trans (Below.mono (by repeat (first | exact Below.refl _ _ | refine Below.drew ?_ | refine below_drewN ?_ _ | refine Below.alloc ?_ (by first | exact Nat.le_refl _ | (simp; done) | (simp; omega)) _)) HB.out.size)⟩
      have ds1 : decide (L ≤ x) = false := decide_eq_false s1
      by_cases s2 : y < 0
      · have ds2 : decide (y < 0) = true := decide_eq_true s2
        have HZ := HE (by rw [HO.out, decide_eq_false (p := 0 ≤ y) (by omega)]; simp)
        go_wp2_with fail
        go_quiet (fail)
        go_wp2_with fail
        go_ret
        exact ⟨ret_int HZ.out.symm, HB.out.trans (Below.mono (by repeat (first | exact Below.refl _ _ | refine Below.drew ?_ | refine below_drewN ?_ _ | refine Below.alloc ?_ (by first | exact Nat.le_refl _ | (simp; done) | (simp; omega)) _)) HB.out.size)⟩
      have ds2 : decide (y < 0) = false := decide_eq_false s2
      by_cases s3 : R ≤ y
      · have ds3 : decide (R ≤ y) = true := decide_eq_true s3
        have HZ := HE (by rw [HO.out, decide_eq_false (p := y < R) (by omega)]; simp)
        go_wp2_with fail
        go_quiet (fail)
        go_wp2_with fail
        go_ret
        exact ⟨ret_int HZ.out.symm, HB.out.trans (Below.mono (by repeat (first | exact Below.refl _ _ | refine Below.drew ?_ | refine below_drewN ?_ _ | refine Below.alloc ?_ (by first | exact Nat.le_refl _ | (simp; done) | (simp; omega)) _)) HB.out.size)⟩
      have ds3 : decide (R ≤ y) = false := decide_eq_false s3
      rcases Nat.eq_zero_or_pos k with hk00 | hkp
      · have HN := Lib.hid (HS.out (by rw [HO.out, decide_eq_true (p := 0 ≤ x) (by omega), decide_eq_true (p := x < L) (by omega), decide_eq_true (p := 0 ≤ y) (by omega), decide_eq_true (p := y < R) (by omega), decide_eq_true hk00]; rfl))
        have dk : decide ((0 : Int) < (k : Int)) = false := decide_eq_false (by omega)
        have dk2 : decide (0 < k) = false := decide_eq_false (by omega)
        have HK := Lib.hid hk00
        clear HO HE HS CO HPrev hk00
        go_wp2_with fail
        go_quiet (fail)
        go_wp2_with fail
        go_roundw
        case rel => exact ⟨k + 1, by omega, by go_num, HN, Lib.hid (HB.out.trans (Below.mono (by repeat (first | exact Below.refl _ _ | refine Below.drew ?_ | refine below_drewN ?_ _ | refine Below.alloc ?_ (by first | exact Nat.le_refl _ | (simp; done) | (simp; omega)) _)) HB.out.size)), (Below.block (w := wr) (B := wr.heap.size) (by repeat (first | exact Below.refl _ _ | refine Below.drew ?_ | refine below_drewN ?_ _ | refine Below.alloc ?_ (by first | exact Nat.le_refl _ | (simp; done) | (simp; omega)) _)) w.heap.size hbl).trans HX.out⟩
        case measure => simp [intOf]; omega
      · have dk : decide ((0 : Int) < (k : Int)) = true := decide_eq_true (by omega)
        obtain ⟨p0, p1⟩ := HPrev.out hkp
        obtain ⟨m, rfl⟩ : ∃ m, k = m + 1 := ⟨k - 1, by omega⟩
        rw [Nat.add_sub_cancel] at p0 p1
        have hm1 : ((m + 1 : Nat) : Int) = (m : Int) + 1 := by omega
        rw [hm1] at dk hlt2 hk0 ⊢
        have hsub : (m : Int) + 1 - 1 = (m : Int) := by omega
        have hml : (m : Int) < (g.edges.length : Int) := by omega
        have hmn : m < g.edges.length := by omega
        have hw1 : IntKind.i64.wrap ((m : Int) + 1 - 1) = (m : Int) := by rw [hsub]; exact IntWalk.i64_in _ (by omega)
        have hw2 : IntKind.i64.wrap (m : Int) = (m : Int) := IntWalk.i64_in _ (by omega)
        have hm0 : (0 : Int) ≤ (m : Int) := by omega
        obtain ⟨r, hr⟩ : ∃ r, r = ordE (px, py) (x, y) := ⟨_, rfl⟩
        rw [← hr] at HO CO
        clear hr HPrev hm1
        have dk2 : decide (0 < m + 1) = true := decide_eq_true (by omega)
        have hxl : w.heap.size < wr.heap.size := hbl
        have m0 : wr.heap.size + 0 < wr.heap.size + 1 := by omega
        have HW0 : Hid (∀ W, Below (wr.heap.size + 1) (wr.alloc (.cells #[.int .i64 x, .int .i64 y] 47)) W → (W.cell? ⟨b, off + m * 2, none⟩ = some (.int .i64 px) ∧ W.cell? ⟨b, off + m * 2 + 1, none⟩ = some (.int .i64 py)) ∧ (W.cell? ⟨wr.heap.size, 0, none⟩ = some (.int .i64 x) ∧ W.cell? ⟨wr.heap.size, 1, none⟩ = some (.int .i64 y)) ∧ Below wr.heap.size wr W) := Lib.hid (fun W hW => by
          have h0 : Below wr.heap.size wr W := ((Below.refl _ _).alloc (Nat.le_refl _) _).trans (hW.mono (by omega))
          have h1 : W.heap[wr.heap.size]? = some (.cells #[.int .i64 x, .int .i64 y] 47 (0, 0)) := (hW.block _ (by omega)).trans (by rw [heap_alloc_if, if_pos rfl])
          exact ⟨⟨(h0.cell (p := ⟨b, _, none⟩) hbw).trans p0, (h0.cell (p := ⟨b, _, none⟩) hbw).trans p1⟩, ⟨cell_of (j := 0) h1 rfl, cell_of (j := 1) h1 rfl⟩, h0⟩)
        obtain ⟨⟨r0, r1⟩, ⟨r2, r3⟩, -⟩ := HW0.out _ (Below.refl _ _)
        clear m0 p0 p1
        by_cases hr0 : 0 ≤ r
        · have HN := HE (by rw [HO.out, decide_eq_false (p := m + 1 = 0) (by omega), decide_eq_false (p := r < 0) (by omega)]; simp)
          have dr : decide ((0 : Int) ≤ r) = true := decide_eq_true hr0
          clear HO HE HS
          go_wp2_with fail
          go_region_held3 (fun w' => w'.cell? ⟨b, off + m * 2, none⟩ = some (.int .i64 px) ∧ w'.cell? ⟨b, off + m * 2 + 1, none⟩ = some (.int .i64 py) ∧ w'.cell? ⟨wr.heap.size, 0, none⟩ = some (.int .i64 x) ∧ w'.cell? ⟨wr.heap.size, 1, none⟩ = some (.int .i64 y) ∧ w'.cell? ⟨w.heap.size, 0, none⟩ = some (.int .i64 L) ∧ w'.cell? ⟨w.heap.size, 1, none⟩ = some (.int .i64 R) ∧ w'.cell? ⟨w.heap.size, 2, none⟩ = some (.slice (some ⟨b, off, none⟩) g.edges.length c)) (first | with_reducible exact ⟨r0, r1, r2, r3, g0, g1, g2⟩ | with_reducible exact ⟨s0, s1, s2, s3, s4, s5, s6⟩ | go_keep) ((go_at_call 41; refine (CO _).out.mono ?_; rintro e w9 ⟨rfl, hb9⟩; have hB9 : Below (wr.heap.size + 1) (wr.alloc (.cells #[.int .i64 x, .int .i64 y] 47)) w9 := Below.trans (by repeat (first | exact Below.refl _ _ | refine Below.drew ?_)) (hb9.mono (by simp; done)); obtain ⟨⟨s0, s1⟩, ⟨s2, s3⟩, h9⟩ := HW0.out w9 hB9; have s4 := (h9.cell (p := ⟨w.heap.size, 0, none⟩) hxl).trans g0; have s5 := (h9.cell (p := ⟨w.heap.size, 1, none⟩) hxl).trans g1; have s6 := (h9.cell (p := ⟨w.heap.size, 2, none⟩) hxl).trans g2; have HB9 := Lib.hid h9; clear hb9 hB9 h9))
          go_wp2_with fail
          go_ret
          exact ⟨ret_int HN.out.symm, HB.out.trans (HB9.out.mono HB.out.size)⟩
        · have HN := Lib.hid (HS.out (by rw [HO.out, decide_eq_true (p := 0 ≤ x) (by omega), decide_eq_true (p := x < L) (by omega), decide_eq_true (p := 0 ≤ y) (by omega), decide_eq_true (p := y < R) (by omega), decide_eq_true (p := r < 0) (by omega)]; simp))
          have dr : decide ((0 : Int) ≤ r) = false := decide_eq_false hr0
          clear HO HE HS
          go_wp2_with fail
          go_region_held3 (fun w' => w'.cell? ⟨b, off + m * 2, none⟩ = some (.int .i64 px) ∧ w'.cell? ⟨b, off + m * 2 + 1, none⟩ = some (.int .i64 py) ∧ w'.cell? ⟨wr.heap.size, 0, none⟩ = some (.int .i64 x) ∧ w'.cell? ⟨wr.heap.size, 1, none⟩ = some (.int .i64 y) ∧ w'.cell? ⟨w.heap.size, 0, none⟩ = some (.int .i64 L) ∧ w'.cell? ⟨w.heap.size, 1, none⟩ = some (.int .i64 R) ∧ w'.cell? ⟨w.heap.size, 2, none⟩ = some (.slice (some ⟨b, off, none⟩) g.edges.length c)) (first | with_reducible exact ⟨r0, r1, r2, r3, g0, g1, g2⟩ | with_reducible exact ⟨s0, s1, s2, s3, s4, s5, s6⟩ | go_keep) ((go_at_call 41; refine (CO _).out.mono ?_; rintro e w9 ⟨rfl, hb9⟩; have hB9 : Below (wr.heap.size + 1) (wr.alloc (.cells #[.int .i64 x, .int .i64 y] 47)) w9 := Below.trans (by repeat (first | exact Below.refl _ _ | refine Below.drew ?_)) (hb9.mono (by simp; done)); obtain ⟨⟨s0, s1⟩, ⟨s2, s3⟩, h9⟩ := HW0.out w9 hB9; have s4 := (h9.cell (p := ⟨w.heap.size, 0, none⟩) hxl).trans g0; have s5 := (h9.cell (p := ⟨w.heap.size, 1, none⟩) hxl).trans g1; have s6 := (h9.cell (p := ⟨w.heap.size, 2, none⟩) hxl).trans g2; have HB9 := Lib.hid h9; clear hb9 hB9 h9))
          have hxf := (HB9.out.block w.heap.size hbl).trans HX.out
          have HBF := Lib.hid (HB.out.trans (HB9.out.mono HB.out.size))
          clear s0 s1 s2 s3 s4 s5 s6 r0 r1 r2 r3 g0 g1 g2 HB9 HB HX
          go_wp2_with fail
          go_roundw
          case rel => exact ⟨m + 1 + 1, by omega, by go_num, HN, HBF, hxf⟩
          case measure => simp [intOf]; omega
    · have hnl : ¬ (k : Int) < (g.edges.length : Int) := by omega
      obtain rfl : k = g.edges.length := by omega
      have HN := Lib.hid (HYes.out (chk_all HSZ.out HT.out))
      go_wp2_with fail
      go_ret
      exact ⟨ret_int HN.out.symm, HB.out⟩
end Go.Proofs.Ytbkgkgigcohbpaa
/- newMatch: two own rows of -1. -/
namespace Go.Proofs.Ytbkgkgigcohbpaa
open Go.RowKit Go.Shelf Go.Deep
/-- the array of one int -/
def ArrI (w : World) (b : Nat) (x : Value) : Prop := w.heap[b]? = some (.cells #[x] 3 (0, 0))
theorem ArrI.new {w : World} {b : Nat} {x : Value} (h : b = w.heap.size) : ArrI (w.alloc (.cells #[x] 3)) b x := by
  show (w.alloc (.cells #[x] 3)).heap[b]? = _
  rw [heap_alloc_if, if_pos h]
theorem ArrI.alloc {w : World} {b : Nat} {x : Value} (h : ArrI w b x) (o : Obj) : ArrI (w.alloc o) b x := (Below.heap_alloc _ _ _ (lt_heap h)).trans h
theorem ArrI.drew {w : World} {b : Nat} {x : Value} (h : ArrI w b x) : ArrI w.drew b x := h
theorem repeat_none (w : World) (ad : Addr) (c : Nat) (u : Value) : Calls Try.prog 47 #[.slice (some ad) 1 c, .int .i64 ((0 : Nat) : Int)] w (RepW w 0 u) := by
  have hmk : ∀ W, (Instr.makeSlice 22 (.int .i64 0) (.int .i64 0)).run Try.prog W = .ok (.slice (some ⟨W.heap.size, 0, none⟩) 0 0) (W.alloc (.cells #[] 3)) := fun W => makeNils 0 (by omega) W
  have M1 := Lib.hid (mul1 0 (by omega) w)
  have hsl : (Try.prog.info? 3).map (·.size) = some 1 := by kernel_rfl
  go_enter Try.func47, Try.ntmps47
  go_wp2_with fail
  refine M1.out.mono ?_
  rintro e w' ⟨rfl, rfl⟩
  go_wp2_with (with_reducible refine wpList_copy_nothing rfl _ _ 22 22 rfl 3 Try.underlying22 hsl _ _ 0 0 1 c rfl rfl rfl ?_)
  go_loopw [8] (fun i wr => i = .int .i64 0 ∧ wr = w.alloc (.cells #[] 3)) (fun _ _ => 0)
  case atStart => exact ⟨rfl, rfl⟩
  case round =>
    obtain ⟨rfl, rfl⟩ := hrel
    go_wp2_with fail
    go_ret
    exact ⟨rfl, by rw [heap_alloc_if, if_pos rfl]; rfl, (Below.refl _ _).alloc (Nat.le_refl _) _⟩
/-- Repeat, whatever the number -/
def RepR (w : World) (n : Nat) (e : Ending) (w' : World) : Prop := ∃ b, e = .returned (.slice (some ⟨b, 0, none⟩) n n) ∧ w.heap.size ≤ b ∧ w'.rowIs b 3 n (fun _ => i64v (-1)) ∧ Below w.heap.size w w'
theorem repeat_all (w : World) (b c n : Nat) (hn : n ≤ 4096) (hc : ArrI w b (i64v (-1))) : Calls Try.prog 47 #[.slice (some ⟨b, 0, none⟩) 1 c, .int .i64 n] w (RepR w n) := by
  have hrow : ∀ w', RepW w n (i64v (-1)) (.returned (.slice (some ⟨w.heap.size, 0, none⟩) n n)) w' → w'.rowIs w.heap.size 3 n (fun _ => i64v (-1)) := fun w' h => by
    refine ⟨_, h.2.1, by simp, fun i hi => by simp [hi]⟩
  rcases Nat.eq_zero_or_pos n with h0 | h1
  · subst h0
    refine (repeat_none w _ c (i64v (-1))).mono fun e w' h => ⟨w.heap.size, h.1, Nat.le_refl _, hrow w' ⟨rfl, h.2⟩, h.2.2⟩
  · refine (repeat_any w _ c n (i64v (-1)) h1 hn (cell_of hc rfl) rfl).mono fun e w' h => ⟨w.heap.size, h.1, Nat.le_refl _, hrow w' ⟨rfl, h.2⟩, h.2.2⟩
end Go.Proofs.Ytbkgkgigcohbpaa
/- newMatch. -/
namespace Go.Proofs.Ytbkgkgigcohbpaa
open Go.RowKit Go.Shelf Go.Deep
/-- a matching's two rows in memory -/
def MatW (w : World) (bl br L R : Nat) (lf rf : Nat → Int) : Prop := bl ≠ br ∧ w.rowIs bl 3 L (fun i => .int .i64 (lf i)) ∧ w.rowIs br 3 R (fun i => .int .i64 (rf i))
theorem frz_at {w : World} {g j : Nat} {cs : Array Value} {t : TypeId} (h : w.heap[g]? = some (.cells cs t (0, 0))) : w.frozen? ⟨g, j, none⟩ = false := by simp [World.frozen?, h]
theorem cell_drew {w : World} {a : Addr} {v : Value} (h : w.cell? a = some v) : w.drew.cell? a = some v := h
theorem cell_alloc {w : World} {a : Addr} {v : Value} (h : w.cell? a = some v) (o : Obj) : (w.alloc o).cell? a = some v := (((Below.refl w.heap.size w).alloc (Nat.le_refl _) o).cell (lt_of_cell h)).trans h
/-- what newMatch hands back -/
def matV (bl br L R : Nat) : Value := .agg #[.slice (some ⟨bl, 0, none⟩) L L, .slice (some ⟨br, 0, none⟩) R R]
def NewMW (w : World) (L R : Nat) (e : Ending) (w' : World) : Prop := ∃ bl br, e = .returned (matV bl br L R) ∧ w.heap.size ≤ bl ∧ w.heap.size ≤ br ∧ MatW w' bl br L R (fun _ => -1) (fun _ => -1) ∧ Below w.heap.size w w'
/-- all objects of W are in w' as they were -/
def KH (W w' : World) : Prop := ∀ (k : Nat) (o : Obj), W.heap[k]? = some o → w'.heap[k]? = some o
theorem heap_drew {w : World} {k : Nat} {o : Obj} (h : w.heap[k]? = some o) : w.drew.heap[k]? = some o := h
theorem heap_alloc_keep {w : World} {k : Nat} {o : Obj} (h : w.heap[k]? = some o) (o' : Obj) : (w.alloc o').heap[k]? = some o := (Below.heap_alloc _ _ _ (lt_heap h)).trans h
theorem KH.row {W w' : World} (h : KH W w') {b : Nat} {t : TypeId} {n : Nat} {f : Nat → Value} (hr : W.rowIs b t n f) : w'.rowIs b t n f := by
  obtain ⟨c, h1, h2⟩ := hr
  exact ⟨c, h _ _ h1, h2⟩
theorem KH.arr {W w' : World} (h : KH W w') {b : Nat} {x : Value} (hr : ArrI W b x) : ArrI w' b x := h _ _ hr
theorem KH.below {W w' : World} (h : Below W.heap.size W w') : KH W w' := fun _ _ e => (h.block _ (lt_heap e)).trans e
theorem RepR.intro {W : World} {n : Nat} {e : Ending} {w' : World} (h : RepR W n e w') : ∃ b, e = .returned (.slice (some ⟨b, 0, none⟩) n n) ∧ W.heap.size ≤ b ∧ b < w'.heap.size ∧ Hid (w'.rowIs b 3 n (fun _ => i64v (-1))) ∧ Hid (KH W w') ∧ Hid (∀ B w0, Below B w0 W → B ≤ W.heap.size → Below B w0 w') ∧ W.heap.size ≤ w'.heap.size := by
  obtain ⟨b, h1, h2, h3, h4⟩ := h
  exact ⟨b, h1, h2, h3.lt, h3, KH.below h4, fun B w0 h hB => h.trans (h4.mono hB), h4.size⟩
set_option maxHeartbeats 2000000 in
theorem newMatch_any (w : World) (M : Nat → Prop) (v : Value) (g : GrD) (h : IsGraph w M v g) {L R : Nat} (hg : GOk g L R) : Calls Try.prog 42 #[v] w (NewMW w L R) := by
  obtain ⟨v2, rfl, -⟩ := h
  obtain ⟨h1, h2, h3, h4, -, -, -⟩ := hg
  rw [h1, h2]
  clear h1 h2
  have hx1 : L ≤ 4096 := by omega
  have hx2 : R ≤ 4096 := by omega
  go_enter Try.func42, Try.ntmps42
  go_wp2_with fail
  refine nameC fun W1 hW1 => ?_
  have hB1 : Below w.heap.size w W1 := by rw [hW1.out]; exact ((Below.refl _ _).alloc (Nat.le_refl _) _).alloc (by simp) _
  have hk1 : W1.heap[w.heap.size]? = some (.cells #[.int .i64 (L : Int), .int .i64 (R : Int), v2] 49 (0, 0)) := by rw [hW1.out, heap_alloc_if, if_neg (by simp), heap_alloc_if, if_pos rfl]
  have hk2 : W1.heap[w.heap.size + 1]? = some (.cells #[.slice none 0 0, .slice none 0 0] 66 (0, 0)) := by rw [hW1.out, heap_alloc_if, if_pos (by simp)]
  have hs1 : w.heap.size + 1 + 1 ≤ W1.heap.size := by have := lt_heap hk2; omega
  have HB1 := Lib.hid hB1
  have HG1 := Lib.hid hk1
  have HX1 := Lib.hid hk2
  have c0 : W1.cell? ⟨w.heap.size, 0, none⟩ = some (.int .i64 (L : Int)) := cell_of hk1 rfl
  have c1 : W1.cell? ⟨w.heap.size, 1, none⟩ = some (.int .i64 (R : Int)) := cell_of hk1 rfl
  clear hW1 hB1 hk1 hk2
  go_region_held3 (fun w' => w'.cell? ⟨w.heap.size, 0, none⟩ = some (.int .i64 (L : Int)) ∧ w'.cell? ⟨w.heap.size, 1, none⟩ = some (.int .i64 (R : Int))) (first | with_reducible exact ⟨c0, c1⟩ | with_reducible exact ⟨a0, a1⟩ | with_reducible exact ⟨b0, b1⟩ | go_keep) (first | (go_at_call 47; (with_reducible refine (repeat_all _ _ _ L hx1 ?_).mono ?_); (focus ((repeat (first | (with_reducible refine ArrI.drew ?_) | ((refine ArrI.new ?_); (focus (first | rfl | (simp; done)))) | (with_reducible refine ArrI.alloc ?_ _) | (refine KH.arr KK.out ?_))); done)); intro e wa ha; obtain ⟨bl, rfl, ga, la, Ra, KK, Ba, Sa⟩ := ha.intro; have HGa := Lib.hid (KK.out w.heap.size (.cells #[.int .i64 (L : Int), .int .i64 (R : Int), v2] 49 (0, 0)) (by repeat (first | with_reducible exact HG1.out | with_reducible exact HGa.out | with_reducible exact HGb.out | (with_reducible refine heap_drew ?_) | (with_reducible refine heap_alloc_keep ?_ _)))); have HXa := Lib.hid (KK.out (w.heap.size + 1) (.cells #[.slice none 0 0, .slice none 0 0] 66 (0, 0)) (by repeat (first | with_reducible exact HX1.out | with_reducible exact HXa.out | with_reducible exact HXb.out | (with_reducible refine heap_drew ?_) | (with_reducible refine heap_alloc_keep ?_ _)))); have a0 : wa.cell? ⟨w.heap.size, 0, none⟩ = some (.int .i64 (L : Int)) := cell_of HGa.out rfl; have a1 : wa.cell? ⟨w.heap.size, 1, none⟩ = some (.int .i64 (R : Int)) := cell_of HGa.out rfl; have a2 : wa.cell? ⟨w.heap.size + 1, 0, none⟩ = some (.slice none 0 0) := cell_of HXa.out rfl; have a3 : wa.cell? ⟨w.heap.size + 1, 1, none⟩ = some (.slice none 0 0) := cell_of HXa.out rfl; have a4 : wa.frozen? ⟨w.heap.size + 1, 0, none⟩ = false := frz_at HXa.out; have a5 : wa.frozen? ⟨w.heap.size + 1, 1, none⟩ = false := frz_at HXa.out; have Ka := KK; clear ha) | (go_at_call 47; (with_reducible refine (repeat_all _ _ _ R hx2 ?_).mono ?_); (focus ((repeat (first | (with_reducible refine ArrI.drew ?_) | ((refine ArrI.new ?_); (focus (first | rfl | (simp; done)))) | (with_reducible refine ArrI.alloc ?_ _) | (refine KH.arr KK.out ?_))); done)); intro e wb hb; obtain ⟨br, rfl, gb, lb, Rb, KK, Bb, Sb⟩ := hb.intro; have HGb := Lib.hid (KK.out w.heap.size (.cells #[.int .i64 (L : Int), .int .i64 (R : Int), v2] 49 (0, 0)) (by repeat (first | with_reducible exact HG1.out | with_reducible exact HGa.out | with_reducible exact HGb.out | (with_reducible refine heap_drew ?_) | (with_reducible refine heap_alloc_keep ?_ _)))); have HXb := Lib.hid (KK.out (w.heap.size + 1) (.cells #[.slice none 0 0, .slice none 0 0] 66 (0, 0)) (by repeat (first | with_reducible exact HX1.out | with_reducible exact HXa.out | with_reducible exact HXb.out | (with_reducible refine heap_drew ?_) | (with_reducible refine heap_alloc_keep ?_ _)))); have b0 : wb.cell? ⟨w.heap.size, 0, none⟩ = some (.int .i64 (L : Int)) := cell_of HGb.out rfl; have b1 : wb.cell? ⟨w.heap.size, 1, none⟩ = some (.int .i64 (R : Int)) := cell_of HGb.out rfl; have b2 : wb.cell? ⟨w.heap.size + 1, 0, none⟩ = some (.slice none 0 0) := cell_of HXb.out rfl; have b3 : wb.cell? ⟨w.heap.size + 1, 1, none⟩ = some (.slice none 0 0) := cell_of HXb.out rfl; have b4 : wb.frozen? ⟨w.heap.size + 1, 0, none⟩ = false := frz_at HXb.out; have b5 : wb.frozen? ⟨w.heap.size + 1, 1, none⟩ = false := frz_at HXb.out; have Kb := KK; clear hb))
  all_goals go_wp2_with fail
  all_goals
    simp at ga gb
    have hne : bl ≠ br := by omega
    have hRa : wb.rowIs bl 3 L (fun _ => i64v (-1)) := KH.row KK.out (by repeat (first | with_reducible exact Ra.out | (with_reducible refine World.rowIs.drew ?_) | (with_reducible refine World.rowIs.alloc ?_ _)))
    have hBa : Below w.heap.size w wa := Ba.out _ _ (by repeat (first | with_reducible exact HB1.out | (with_reducible refine Below.drew ?_) | (with_reducible refine Below.alloc ?_ (by first | omega | (simp; omega)) _))) (by first | omega | (simp; omega))
    have hBb : Below w.heap.size w wb := Bb.out _ _ (by repeat (first | with_reducible exact hBa | (with_reducible refine Below.drew ?_) | (with_reducible refine Below.alloc ?_ (by first | omega | (simp; omega)) _))) (by first | omega | (simp; omega))
    refine bodyPost_ret (v := matV bl br L R) (by simp [results, Try.results42, go_sem, b2, b3, matV]) rfl ⟨bl, br, rfl, by omega, by omega, ⟨hne, ?_, ?_⟩, (hBb.setCell (by show w.heap.size ≤ w.heap.size + 1; omega) _).setCell (by show w.heap.size ≤ w.heap.size + 1; omega) _⟩
    · exact (hRa.setOther (by show bl ≠ w.heap.size + 1; omega) _).setOther (by show bl ≠ w.heap.size + 1; omega) _
    · exact (Rb.out.setOther (by show br ≠ w.heap.size + 1; omega) _).setOther (by show br ≠ w.heap.size + 1; omega) _
end Go.Proofs.Ytbkgkgigcohbpaa
/- The memory of find: words and their laws. -/
namespace Go.Proofs.Ytbkgkgigcohbpaa
open Go.RowKit Go.Shelf Go.Deep Sm
/-- a set of ints read at natural numbers -/
def Sn (S : Int → Bool) : Nat → Bool := fun r => S (r : Int)
theorem Sn_upd (S : Int → Bool) (r : Nat) : Sn (updS S (r : Int) true) = addS (Sn S) r := by
  funext q
  unfold Sn updS addS
  by_cases h : q = r
  · rw [if_pos h, if_pos (by omega)]
  · rw [if_neg h, if_neg (by omega)]
/-- how many are not seen -/
def unseen (S : Nat → Bool) (R : Nat) : Nat := sumB (fun r => if S r = true then 0 else 1) R
theorem unseen_le {S S' : Nat → Bool} {R : Nat} (h : ∀ r, r < R → S r = true → S' r = true) : unseen S' R ≤ unseen S R := sumB_le fun r hr => by
  cases e : S r
  · split <;> simp
  · rw [if_pos (h r hr e)]; omega
theorem unseen_add {S : Nat → Bool} : ∀ {R r : Nat}, r < R → S r = false → unseen (addS S r) R + 1 = unseen S R
  | 0, r, h, _ => absurd h (by omega)
  | R + 1, r, h, hs => by
    unfold unseen
    rw [sumB, sumB]
    rcases Nat.lt_or_ge r R with h1 | h1
    · have ih := unseen_add h1 hs
      unfold unseen at ih
      have : addS S r R = S R := if_neg (by omega)
      rw [this]
      omega
    · obtain rfl : r = R := by omega
      rw [addS_same, if_pos rfl, if_neg (by rw [hs]; decide)]
      have : sumB (fun q => if addS S r q = true then 0 else 1) r = sumB (fun q => if S q = true then 0 else 1) r := sumB_congr fun q hq => by
        have : addS S r q = S q := if_neg (by omega)
        rw [this]
      omega
theorem unseen_none (R : Nat) : unseen (fun _ => false) R ≤ R := by
  unfold unseen
  induction R with
  | zero => exact Nat.le_refl _
  | succ R ih => rw [sumB]; simp only [Bool.false_eq_true, if_false] at ih ⊢; omega
def ptr (b : Nat) : Value := .pointer (some ⟨b, 0, none⟩)
/-- what does not change while find works: bg the graph's box, bs the box of the map ms, bm the matching's box with the rows bl and br, bf the closure's box -/
structure FW (B : Nat) (w : World) (g : GrD) (bg bs bm bf bl br ms L R : Nat) : Prop where
  gr : ∃ v2, w.heap[bg]? = some (.cells #[.int .i64 g.left, .int .i64 g.right, v2] 49 (0, 0)) ∧ IsEdges w (NB [ms, bl, br]) v2 g.edges
  sb : w.heap[bs]? = some (.cells #[.map (some ms)] 73 (0, 0))
  mb : w.heap[bm]? = some (.cells #[.slice (some ⟨bl, 0, none⟩) L L, .slice (some ⟨br, 0, none⟩) R R] 66 (0, 0))
  fb : w.heap[bf]? = some (.cells #[.func (.func 43) #[] #[ptr bg, ptr bs, ptr bm, ptr bf]] 74 (0, 0))
  ng : bg ∉ [ms, bl, br]
  ns : bs ∉ [ms, bl, br]
  nm : bm ∉ [ms, bl, br]
  nf : bf ∉ [ms, bl, br]
  ne : ms ≠ bl ∧ ms ≠ br ∧ bl ≠ br
  base : B ≤ ms ∧ B ≤ bl ∧ B ≤ br
/-- what changes: the map of what is seen, the two rows -/
structure DW (w : World) (bl br ms L R n : Nat) (S : Int → Bool) (lf rf : Nat → Int) : Prop where
  set : SetB Try.prog 3 4 .i64 w ms n S
  left : w.rowIs bl 3 L (fun i => .int .i64 (lf i))
  right : w.rowIs br 3 R (fun i => .int .i64 (rf i))
  cnt : n + unseen (Sn S) R ≤ R
/-- but the blocks of l all is as it was, and nothing below B has changed -/
structure KB (B : Nat) (l : List Nat) (w w' : World) : Prop where
  kp : Kp l w w'
  bel : Below B w w'
section
variable {B : Nat} {w w' w'' : World} {l : List Nat} {g : GrD} {bg bs bm bf bl br ms L R n b : Nat} {S : Int → Bool} {lf rf lf' rf' : Nat → Int} {o : Obj} {v : Value}
theorem KB.refl (B : Nat) (l : List Nat) (w : World) : KB B l w w := ⟨Kp.refl l w, Below.refl B w⟩
theorem KB.trans (h : KB B l w w') (k : KB B l w' w'') : KB B l w w'' := ⟨h.kp.trans k.kp, h.bel.trans k.bel⟩
theorem KB.drew (h : KB B l w w') : KB B l w w'.drew := ⟨h.kp.drew, h.bel.drew⟩
theorem KB.setCell (h : KB B l w w') (hb : b ∈ l) (hB : B ≤ b) (j : Nat) (u : Value) : KB B l w (w'.setCell ⟨b, j, none⟩ u) := ⟨h.kp.setCell hb j u, h.bel.setCell hB u⟩
theorem KB.grown (hg : w.grownBy w' (some b)) (hb : b ∈ l) (hB : B ≤ b) (hw : B ≤ w.heap.size) : KB B l w w' := ⟨⟨hg.size, fun k hk hl => hg.block k hk fun e => hl ((Option.some.inj e) ▸ hb)⟩, (Below.refl B w).grown hg hw fun _ e => (Option.some.inj e) ▸ hB⟩
theorem FW.kp (h : FW B w g bg bs bm bf bl br ms L R) (k0 : KB B [ms, bl, br] w w') : FW B w' g bg bs bm bf bl br ms L R := by
  have k := k0.kp
  obtain ⟨⟨v2, h1, h2⟩, h3, h4, h5, n1, n2, n3, n4, n5, n6⟩ := h
  exact ⟨⟨v2, (k.block _ (lt_heap h1) n1).trans h1, IsSl.kp h2 k⟩, (k.block _ (lt_heap h3) n2).trans h3, (k.block _ (lt_heap h4) n3).trans h4, (k.block _ (lt_heap h5) n4).trans h5, n1, n2, n3, n4, n5, n6⟩
theorem DW.below (h : DW w bl br ms L R n S lf rf) (hb : Below w.heap.size w w') : DW w' bl br ms L R n S lf rf :=
  ⟨h.set.below hb (Nat.le_refl _), h.left.of_block (hb.block _ h.left.lt), h.right.of_block (hb.block _ h.right.lt), h.cnt⟩
theorem Kp.ofBelow {l : List Nat} (hb : Below w.heap.size w w') : Kp l w w' := ⟨hb.size, fun k hk _ => hb.block k hk⟩
theorem DW.row_l (h : DW w bl br ms L R n S lf rf) (hne : bl ≠ br) (hms : ms ≠ bl) {a : Nat} {x : Int} : DW (w.setCell ⟨bl, a, none⟩ (.int .i64 x)) bl br ms L R n S (upd lf a x) rf :=
  ⟨h.set.set hms.symm _ _, (h.left.set a _).congr fun i _ => by unfold upd; split <;> rfl, h.right.setOther (a := ⟨bl, a, none⟩) hne.symm _, h.cnt⟩
theorem DW.row_r (h : DW w bl br ms L R n S lf rf) (hne : bl ≠ br) (hms : ms ≠ br) {a : Nat} {x : Int} : DW (w.setCell ⟨br, a, none⟩ (.int .i64 x)) bl br ms L R n S lf (upd rf a x) :=
  ⟨h.set.set hms.symm _ _, h.left.setOther (a := ⟨br, a, none⟩) hne _, (h.right.set a _).congr fun i _ => by unfold upd; split <;> rfl, h.cnt⟩
theorem DW.grow {r : Nat} (h : DW w bl br ms L R n S lf rf) (hr : r < R) (hs : S (r : Int) = false) (hset : SetB Try.prog 3 4 .i64 w' ms (n + 1) (updS S (r : Int) true)) (hg : w.grownBy w' (some ms)) (h1 : ms ≠ bl) (h2 : ms ≠ br) : DW w' bl br ms L R (n + 1) (updS S (r : Int) true) lf rf :=
  ⟨hset, h.left.of_block (hg.block _ h.left.lt fun e => h1 (Option.some.inj e).symm), h.right.of_block (hg.block _ h.right.lt fun e => h2 (Option.some.inj e).symm), by
    have := unseen_add (S := Sn S) hr hs
    rw [Sn_upd]
    have := h.cnt
    omega⟩
theorem KB.ofB (hf : FW B w g bg bs bm bf bl br ms L R) (hd : DW w bl br ms L R n S lf rf) (hb : Below w.heap.size w w') : KB B l w w' :=
  ⟨Kp.ofBelow hb, hb.mono (by have := hf.base.2.1; have := hd.left.lt; omega)⟩
end
/-- what augment leaves -/
def AugR (E : Nat → Nat → Bool) (L R : Nat) (S : Int → Bool) (v : Nat) (lf rf : Nat → Int) (ok : Bool) (S' : Int → Bool) (lf' rf' : Nat → Int) : Prop :=
  (ok = true ∧ AugY E L R (Sn S) v lf rf lf' rf') ∨ (ok = false ∧ lf' = lf ∧ rf' = rf ∧ AugN E L R rf (Sn S) (Sn S') v)
/-- what augment asks -/
structure AP (B : Nat) (w : World) (g : GrD) (bg bs bm bf bl br ms L R n : Nat) (S : Int → Bool) (lf rf : Nat → Int) (v : Nat) : Prop where
  fw : FW B w g bg bs bm bf bl br ms L R
  dw : DW w bl br ms L R n S lf rf
  inv : MInv (edB g) L R lf rf
  lt : v < L
  own : 0 ≤ lf v → ∃ q : Nat, lf v = (q : Int) ∧ q < R ∧ Sn S q = true
def AugW (B : Nat) (w : World) (g : GrD) (bl br ms L R : Nat) (S : Int → Bool) (lf rf : Nat → Int) (v : Nat) (e : Ending) (w' : World) : Prop :=
  ∃ ok n' S' lf' rf', e = .returned (.bool ok) ∧ KB B [ms, bl, br] w w' ∧ DW w' bl br ms L R n' S' lf' rf' ∧ AugR (edB g) L R S v lf rf ok S' lf' rf'
/-- the neighbours as numbers -/
structure Nbs (g : GrD) (R v : Nat) (l : List (Int × Int)) (rn : Nat → Nat) : Prop where
  val : ∀ j, j < l.length → (nthE l j).2 = (rn j : Int)
  lt : ∀ j, j < l.length → rn j < R
  ed : ∀ j, j < l.length → edB g v (rn j) = true
  all : ∀ q, edB g v q = true → ∃ j, j < l.length ∧ rn j = q
theorem nbs_of {g : GrD} {L R : Nat} (hg : GOk g L R) (v : Nat) : ∃ rn, Nbs g R v (ofV g.edges v) rn := by
  have key : ∀ j, j < (ofV g.edges v).length → nthE (ofV g.edges v) j ∈ g.edges ∧ (nthE (ofV g.edges v) j).1 = (v : Int) := fun j hj => by
    have := mem_ofV.1 (List.getElem_mem hj)
    rw [nthE_get hj]; exact this
  have rng : ∀ e, e ∈ g.edges → 0 ≤ e.2 ∧ e.2 < R := fun e he => by
    obtain ⟨i, hi, rfl⟩ := List.mem_iff_getElem.1 he
    have := hg.rng i hi
    rw [nthE_get hi] at this
    exact this.2.2
  have val : ∀ j, j < (ofV g.edges v).length → (nthE (ofV g.edges v) j).2 = (((nthE (ofV g.edges v) j).2.toNat : Nat) : Int) := fun j hj => by
    have := rng _ (key j hj).1
    omega
  refine ⟨fun j => (nthE (ofV g.edges v) j).2.toNat, val, fun j hj => ?_, fun j hj => ?_, fun q hq => ?_⟩
  · have := rng _ (key j hj).1
    omega
  · unfold edB
    rw [List.contains_iff_mem, ← val j hj, ← (key j hj).2]
    exact (key j hj).1
  · unfold edB at hq
    rw [List.contains_iff_mem] at hq
    have : ((v : Int), (q : Int)) ∈ ofV g.edges v := mem_ofV.2 ⟨hq, rfl⟩
    obtain ⟨j, hj, e⟩ := List.mem_iff_getElem.1 this
    refine ⟨j, hj, ?_⟩
    rw [nthE_get hj, e]
    show (q : Int).toNat = q
    omega
end Go.Proofs.Ytbkgkgigcohbpaa
/- augment, the closure of find. -/
namespace Go.Proofs.Ytbkgkgigcohbpaa
open Go.RowKit Go.Shelf Go.Deep Sm
theorem Try.zeroBool25 (w : World) : (zeroValue 4).run Try.prog w = .ok (.bool false) w := by kernel_rfl
theorem wfI {x : Int} (h1 : 0 ≤ x) (h2 : x ≤ 1000000) : (Lit.int .i64 x).wf = true := by
  simp [Lit.wf, IntKind.min, IntKind.max, IntKind.signed, IntKind.bits]; omega
theorem AugR.keep {E : Nat → Nat → Bool} {L R v q : Nat} {S S' : Int → Bool} {lf rf lf' rf' : Nat → Int} {ok : Bool} (h : AugR E L R S v lf rf ok S' lf' rf') (hq : q < R) (hs : Sn S q = true) : rf' q = rf q := by
  rcases h with ⟨-, h⟩ | ⟨-, -, h, -⟩
  · exact h.keep q hq hs
  · rw [h]
set_option maxHeartbeats 4000000 in
theorem aug_any (B : Nat) (g : GrD) (bg bs bm bf bl br ms L R : Nat) (hg : GOk g L R) : ∀ (m : Nat) (w : World) (n : Nat) (S : Int → Bool) (lf rf : Nat → Int) (v : Nat), AP B w g bg bs bm bf bl br ms L R n S lf rf v → unseen (Sn S) R ≤ m →
    Calls Try.prog 43 #[.int .i64 (v : Int), .pointer (some ⟨bg, 0, none⟩), .pointer (some ⟨bs, 0, none⟩), .pointer (some ⟨bm, 0, none⟩), .pointer (some ⟨bf, 0, none⟩)] w (AugW B w g bl br ms L R S lf rf v) := by
  intro m
  induction m using Nat.strongRecOn with
  | _ m ih =>
    intro w n S lf rf v hp hm
    have HIH := Lib.hid ih
    have HP := Lib.hid hp
    have HG := Lib.hid hg
    have HM := Lib.hid hm
    obtain ⟨rn, hrn⟩ := nbs_of hg v
    have HN := Lib.hid hrn
    obtain ⟨l5, hl5⟩ : ∃ l, l = [ms, bl, br] := ⟨_, rfl⟩
    have HL5 := Lib.hid hl5
    obtain ⟨⟨v2, hgb, hed⟩, hsb, hmb, hfb, -, -, -, -, -⟩ := id hp.fw
    have CF := Lib.hid (from_any w (NB [ms, bl, br]) _ g ⟨v2, rfl, hed⟩ hg v (by have := hp.lt; have := hg.l512; omega))
    have cg0 : w.cell? ⟨bg, 0, none⟩ = some (.int .i64 g.left) := cell_of hgb rfl
    have cg1 : w.cell? ⟨bg, 1, none⟩ = some (.int .i64 g.right) := cell_of hgb rfl
    have cg2 : w.cell? ⟨bg, 2, none⟩ = some v2 := cell_of hgb rfl
    clear ih hp hg hm hrn hl5 hgb hed hsb hmb hfb
    go_enter Try.func43, Try.ntmps43
    go_wp2_with fail
    refine CF.out.mono ?_
    rintro e w1 ⟨A, c, rfl, hE, hB⟩
    have HE := Lib.hid hE
    have HK1 := Lib.hid (KB.ofB (l := [ms, bl, br]) HP.out.fw HP.out.dw hB)
    have HD1 := Lib.hid (HP.out.dw.below hB)
    have HLen := Lib.hid (ofV_length g.edges v)
    obtain ⟨l, hl⟩ : ∃ l, l = ofV g.edges v := ⟨_, rfl⟩
    rw [← hl] at HE HN HLen ⊢
    have hlen : l.length ≤ 4096 := by have := HLen.out; have := HG.out.len; omega
    clear CF hE hB hl cg0 cg1 cg2 HLen
    go_wp2_with fail
    go_loopw [13] (fun q13 wr => ∃ k : Nat, k ≤ l.length ∧ q13 = .int .i64 (k : Int) ∧ Hid (KB B [ms, bl, br] w1 wr) ∧ Hid (∃ nk Sk, DW wr bl br ms L R nk Sk lf rf ∧ Sch (edB g) L R rf (Sn S) (Sn Sk) rn k)) (fun q _ => l.length - (intOf q).toNat)
    case atStart => exact ⟨0, Nat.zero_le _, rfl, Lib.hid (KB.refl _ _ _), Lib.hid ⟨n, S, HD1.out, Sch.start⟩⟩
    case round =>
      obtain ⟨k, hk, rfl, HKr, HDr⟩ := hrel
      obtain ⟨nk, Sk, hDk, hSk⟩ := HDr.out
      have HD := Lib.hid hDk
      have HS := Lib.hid hSk
      have HF := Lib.hid ((HP.out.fw.kp HK1.out).kp HKr.out)
      clear HDr hDk hSk
      by_cases hlt : k < l.length
      · have hlt2 : (k : Int) < (l.length : Int) := by omega
        have hk0 : (0 : Int) ≤ (k : Int) := by omega
        obtain ⟨b, off, rfl, hb, e0, e1⟩ := IsEdges.at_ (IsSl.kp HE.out HKr.out.kp : IsEdges wr _ _ l) (Below.refl _ _) hlt
        rw [← nthE_get hlt] at e0 e1
        rw [HN.out.val k hlt] at e1
        have hrR := HN.out.lt k hlt
        have HED := Lib.hid (HN.out.ed k hlt)
        obtain ⟨r, hr⟩ : ∃ r, r = rn k := ⟨_, rfl⟩
        rw [← hr] at e1 hrR HED
        have HR := Lib.hid hr
        obtain ⟨x1, hx1⟩ : ∃ x, x = (nthE l k).1 := ⟨_, rfl⟩
        rw [← hx1] at e0
        have hr512 : R ≤ 512 := HG.out.r512
        clear hr hx1
        go_upto_region 4 with fail
        refine nameC fun W3 hW3 => ?_
        have hB3 : Below wr.heap.size wr W3 := by rw [hW3.out]; exact (Below.refl _ _).alloc (Nat.le_refl _) _
        have hx3 : W3.heap[wr.heap.size]? = some (.cells #[.int .i64 x1, .int .i64 (r : Int)] 47 (0, 0)) := by rw [hW3.out, heap_alloc_if, if_pos rfl]
        have HK3 := Lib.hid (HKr.out.trans (KB.ofB HF.out HD.out hB3))
        have HD3 := Lib.hid (HD.out.below hB3)
        have HF3 := Lib.hid (HF.out.kp (KB.ofB HF.out HD.out hB3))
        have HX3 := Lib.hid hx3
        have hxb : W3.cell? ⟨wr.heap.size, 1, none⟩ = some (.int .i64 (r : Int)) := cell_of hx3 rfl
        have hsb : W3.cell? ⟨bs, 0, none⟩ = some (.map (some ms)) := cell_of HF3.out.sb rfl
        have HWF := Lib.hid (wfI (x := (r : Int)) (by omega) (by omega))
        have hms3 : wr.heap.size ≠ ms := fun e => by have := HD.out.set.lt; omega
        have hml3 : wr.heap.size ≠ bl := fun e => by have := HD.out.left.lt; omega
        have hmr3 : wr.heap.size ≠ br := fun e => by have := HD.out.right.lt; omega
        have HNX : Hid (wr.heap.size ∉ [ms, bl, br]) := Lib.hid (by simp; exact ⟨hms3, hml3, hmr3⟩)
        obtain ⟨bx, hbx⟩ : ∃ bx, bx = wr.heap.size := ⟨_, rfl⟩
        rw [← hbx] at hxb HX3 HNX ⊢
        have HBX := Lib.hid hbx
        clear hbx hW3 hx3 hB3 e0 e1 hms3 hml3 hmr3
        cases hseen : Sk (r : Int)
        · have HS3 := Lib.hid HD3.out.set
          have HSeen := Lib.hid hseen
          have hnk : nk < maxLen := by have := HD3.out.cnt; unfold maxLen; omega
          clear hseen
          go_wp2_with (first | (at_lookup; refine wpList_lookup_set (w := _) rfl _ _ 73 rfl Try.underlying3 Try.underlying73 Try.underlying4 (Try.zeroBool25 _) rfl HS3.out _ rfl HWF.out ?_; rw [HSeen.out]) | (at_mapUpdate; refine wpList_update_set (w := _) rfl _ _ _ 73 rfl Try.underlying3 Try.underlying73 Try.underlying4 rfl HS3.out hnk _ rfl HWF.out true rfl ?_; intro w8 hs8 hg8))
          have hKg : KB B [ms, bl, br] W3 w8 := KB.grown hg8 (by simp) HF3.out.base.1 (by have := HF3.out.base.1; have := HS3.out.lt; omega)
          have HD8 := Lib.hid (HD3.out.grow hrR HSeen.out hs8 hg8 HF3.out.ne.1 HF3.out.ne.2.1)
          have HK8 := Lib.hid (HK3.out.trans hKg)
          have HF8 := Lib.hid (HF3.out.kp hKg)
          have HX8 := Lib.hid ((hKg.kp.block bx (lt_heap HX3.out) HNX.out).trans HX3.out)
          clear hs8 hg8 hKg hxb hsb
          have hxb : w8.cell? ⟨bx, 1, none⟩ = some (.int .i64 (r : Int)) := cell_of HX8.out rfl
          have hm0 : w8.cell? ⟨bm, 0, none⟩ = some (.slice (some ⟨bl, 0, none⟩) L L) := cell_of HF8.out.mb rfl
          have hm1 : w8.cell? ⟨bm, 1, none⟩ = some (.slice (some ⟨br, 0, none⟩) R R) := cell_of HF8.out.mb rfl
          have hcr := HD8.out.right.cell hrR
          have hrI : (r : Int) < (R : Int) := by omega
          have hr0 : (0 : Int) ≤ (r : Int) := by omega
          obtain ⟨y, hy⟩ : ∃ y, y = rf r := ⟨_, rfl⟩
          rw [← hy] at hcr
          have HY := Lib.hid hy
          clear hy
          go_upto_region 6 with fail
          (try simp only [Act.put])
          go_cut [40] (fun c W => ∃ ok, c = .bool ok ∧ Hid (KB B [ms, bl, br] w8 W) ∧ Hid (∃ n1 S1 lf1 rf1, DW W bl br ms L R n1 S1 lf1 rf1 ∧ ((ok = true ∧ AugY (edB g) L R (Sn S) v lf rf (upd lf1 v (r : Int)) (upd rf1 r (v : Int))) ∨ (ok = false ∧ lf1 = lf ∧ rf1 = rf ∧ Sch (edB g) L R rf (Sn S) (Sn S1) rn (k + 1)))))
          case first =>
            by_cases hy0 : y < 0
            · have hdy : decide (y < 0) = true := decide_eq_true hy0
              go_quiet (fail)
              go_wp2_with fail
              go_meet
              case rel =>
                refine ⟨true, rfl, Lib.hid (KB.ofB HF8.out HD8.out (below_drewN (Below.refl _ _) _)), Lib.hid ⟨nk + 1, _, lf, rf, HD8.out.below (below_drewN (Below.refl _ _) _), .inl ⟨rfl, aug_free HP.out.inv HP.out.lt hrR HED.out ?_ (by rw [← HY.out]; exact hy0) (fun h => by obtain ⟨q, a1, -, a3⟩ := HP.out.own h; exact ⟨q, a1, a3⟩)⟩⟩⟩
                cases e : Sn S r
                · rfl
                · exact absurd (HS.out.sub r hrR e) (by show ¬ Sk (r : Int) = true; rw [HSeen.out]; decide)
            · have hdy : decide (y < 0) = false := decide_eq_false hy0
              have hfb : w8.cell? ⟨bf, 0, none⟩ = some (.func (.func 43) #[] #[ptr bg, ptr bs, ptr bm, ptr bf]) := cell_of HF8.out.fb rfl
              unfold ptr at hfb
              obtain ⟨u, hu⟩ : ∃ u : Nat, y = (u : Int) := ⟨y.toNat, by omega⟩
              subst hu
              obtain ⟨u', hu3, huL, hul⟩ := HP.out.inv.rl r hrR (by rw [← HY.out]; omega)
              have hu4 : u' = u := by have := HY.out; omega
              subst hu4
              have hunr := unseen_add (S := Sn Sk) hrR HSeen.out
              have hle := unseen_le HS.out.sub
              have HA8 : Hid (AP B w8 g bg bs bm bf bl br ms L R (nk + 1) (updS Sk (r : Int) true) lf rf u') := Lib.hid ⟨HF8.out, HD8.out, HP.out.inv, huL, fun _ => ⟨r, hul, hrR, by rw [Sn_upd]; exact addS_same _ _⟩⟩
              have HIU := HIH.out (unseen (addS (Sn Sk) r) R) (by have := HM.out; omega)
              have HIC : ∀ W, Below w8.heap.size w8 W → Hid (Calls Try.prog 43 #[.int .i64 (u' : Int), .pointer (some ⟨bg, 0, none⟩), .pointer (some ⟨bs, 0, none⟩), .pointer (some ⟨bm, 0, none⟩), .pointer (some ⟨bf, 0, none⟩)] W (AugW B W g bl br ms L R (updS Sk (r : Int) true) lf rf u')) := fun W hW =>
                Lib.hid (HIU W (nk + 1) _ lf rf u' ⟨HF8.out.kp (KB.ofB HF8.out HD8.out hW), HD8.out.below hW, HP.out.inv, huL, HA8.out.own⟩ (by rw [Sn_upd]; exact Nat.le_refl _))
              have hy1 : ¬ (u' : Int) < 0 := hy0
              have HUL := Lib.hid (And.intro hul (And.intro hu3 huL))
              clear hunr hle hul hu3 HIU HA8 hy0
              go_region_held3 (fun w' => w'.cell? ⟨bm, 1, none⟩ = some (.slice (some ⟨br, 0, none⟩) R R) ∧ w'.cell? ⟨bx, 1, none⟩ = some (.int .i64 (r : Int)) ∧ w'.cell? ⟨br, r, none⟩ = some (.int .i64 (u' : Int)) ∧ w'.cell? ⟨bf, 0, none⟩ = some (.func (.func 43) #[] #[.pointer (some ⟨bg, 0, none⟩), .pointer (some ⟨bs, 0, none⟩), .pointer (some ⟨bm, 0, none⟩), .pointer (some ⟨bf, 0, none⟩)])) (first | with_reducible exact ⟨hm1, hxb, hcr, hfb⟩ | with_reducible exact ⟨s0, s1, s2, s3⟩ | go_keep) ((go_at_call 43; refine (HIC _ (by repeat (first | with_reducible exact Below.refl _ _ | (with_reducible refine Below.drew ?_)))).out.mono ?_; rintro e w9 ⟨ok, n9, S9, lf9, rf9, rfl, hk9, hd9, hr9⟩; have HK9 : Hid (KB B [ms, bl, br] w8 w9) := KB.trans (by repeat (first | with_reducible exact KB.refl _ _ _ | (with_reducible refine KB.drew ?_))) hk9; have HD9 := Lib.hid hd9; have HR9 := Lib.hid hr9; have HF9 := Lib.hid (HF8.out.kp HK9.out); have s0 : w9.cell? ⟨bm, 1, none⟩ = some (.slice (some ⟨br, 0, none⟩) R R) := cell_of HF9.out.mb rfl; have s1 : w9.cell? ⟨bx, 1, none⟩ = some (.int .i64 (r : Int)) := cell_of ((HK9.out.kp.block bx (lt_heap HX8.out) HNX.out).trans HX8.out) rfl; have s2 : w9.cell? ⟨br, r, none⟩ = some (.int .i64 (u' : Int)) := (HD9.out.right.cell hrR).trans (by rw [(AugR.keep HR9.out (q := r) hrR (by rw [Sn_upd]; exact addS_same _ _)).trans HUL.out.2.1]); have s3 : w9.cell? ⟨bf, 0, none⟩ = some (.func (.func 43) #[] #[.pointer (some ⟨bg, 0, none⟩), .pointer (some ⟨bs, 0, none⟩), .pointer (some ⟨bm, 0, none⟩), .pointer (some ⟨bf, 0, none⟩)]) := cell_of HF9.out.fb rfl; clear hk9 hd9 hr9))
              go_wp2_with fail
              go_meet
              case rel =>
                refine ⟨ok, rfl, HK9, Lib.hid ⟨n9, S9, lf9, rf9, HD9.out, ?_⟩⟩
                rcases HR9.out with ⟨e, hy⟩ | ⟨e, e1, e2, hn⟩
                · refine .inl ⟨e, aug_yes (u := u') HP.out.inv HP.out.lt hrR HED.out HS.out.sub HSeen.out HUL.out.2.1 (fun h => ?_) (by rw [← Sn_upd]; exact hy)⟩
                  obtain ⟨q, a1, a2, a3⟩ := HP.out.own h
                  exact ⟨q, a1, a2, HS.out.sub q a2 a3⟩
                · refine .inr ⟨e, e1, e2, HS.out.fail (u := u') (HR.out ▸ hrR) (fun j hj => HN.out.lt j (by omega)) (HR.out ▸ HUL.out.2.1) huL ?_⟩
                  rw [← HR.out, ← Sn_upd]
                  exact hn
          case rest =>
            obtain ⟨ok, rfl, HKW, HDW⟩ := hcut
            obtain ⟨n1, S1, lf1, rf1, hDW, hRW⟩ := HDW.out
            have HDX := Lib.hid hDW
            have HKX := Lib.hid (HK8.out.trans HKW.out)
            have HFX := Lib.hid (HF8.out.kp HKW.out)
            have HXX := Lib.hid ((HKW.out.kp.block bx (lt_heap HX8.out) HNX.out).trans HX8.out)
            clear HDW hDW hm0 hm1 hxb hcr HK8 HF8 HX8 HD8 HKW HY HSeen hnk HS3
            rcases hRW with ⟨rfl, hY⟩ | ⟨rfl, rfl, rfl, hN⟩
            · have HYY := Lib.hid hY
              have hm0 : wc.cell? ⟨bm, 0, none⟩ = some (.slice (some ⟨bl, 0, none⟩) L L) := cell_of HFX.out.mb rfl
              have hm1 : wc.cell? ⟨bm, 1, none⟩ = some (.slice (some ⟨br, 0, none⟩) R R) := cell_of HFX.out.mb rfl
              have hxb : wc.cell? ⟨bx, 1, none⟩ = some (.int .i64 (r : Int)) := cell_of HXX.out rfl
              have hvL := HP.out.lt
              have hvI : (v : Int) < (L : Int) := by omega
              have hv0 : (0 : Int) ≤ (v : Int) := by omega
              have hcl := HDX.out.left.cell hvL
              have hcr := HDX.out.right.cell hrR
              have hfl := HDX.out.left.frozen v
              have hfr := HDX.out.right.frozen r
              generalize lf1 v = yl at hcl
              generalize rf1 r = yr at hcr
              have hne := HFX.out.ne.2.2
              have hn1 : bl ≠ bm := fun e => HFX.out.nm (by rw [← e]; simp)
              have hn2 : br ≠ bm := fun e => HFX.out.nm (by rw [← e]; simp)
              have hn3 : bl ≠ bx := fun e => HNX.out (by rw [← e]; simp)
              have hn4 : br ≠ bx := fun e => HNX.out (by rw [← e]; simp)
              clear hY
              go_wp2_with fail
              go_region
              have HKE : Hid (KB B [ms, bl, br] w (((wc.setCell ⟨bl, v, none⟩ (.int .i64 (r : Int))).setCell ⟨br, r, none⟩ (.int .i64 (v : Int))).drew)) := Lib.hid (((HK1.out.trans (HKX.out.setCell (b := bl) (by simp) HFX.out.base.2.1 v (.int .i64 (r : Int)))).setCell (b := br) (by simp) HFX.out.base.2.2 r (.int .i64 (v : Int))).drew)
              have HDE : Hid (DW (((wc.setCell ⟨bl, v, none⟩ (.int .i64 (r : Int))).setCell ⟨br, r, none⟩ (.int .i64 (v : Int))).drew) bl br ms L R n1 S1 (upd lf1 v (r : Int)) (upd rf1 r (v : Int))) := Lib.hid (((HDX.out.row_l HFX.out.ne.2.2 HFX.out.ne.1).row_r HFX.out.ne.2.2 HFX.out.ne.2.1).below (below_drewN (Below.refl _ _) 1))
              generalize (((wc.setCell ⟨bl, v, none⟩ (.int .i64 (r : Int))).setCell ⟨br, r, none⟩ (.int .i64 (v : Int))).drew) = WE at HKE HDE
              go_wp2_with fail
              go_ret
              exact ⟨true, n1, S1, _, _, rfl, HKE.out, HDE.out, .inl ⟨rfl, HYY.out⟩⟩
            · have HNN := Lib.hid hN
              clear hN
              go_wp2_with fail
              exact ⟨⟨k + 1, by omega, by go_num, HKX, Lib.hid ⟨n1, S1, HDX.out, HNN.out⟩⟩, by simp [intOf]; omega⟩
        · have HSN := Lib.hid (HS.out.seen (by rw [← HR.out]; exact hseen))
          have HS3 := Lib.hid HD3.out.set
          have HSeen := Lib.hid hseen
          clear hseen
          go_wp2_with (at_lookup; refine wpList_lookup_set (w := _) rfl _ _ 73 rfl Try.underlying3 Try.underlying73 Try.underlying4 (Try.zeroBool25 _) rfl HS3.out _ rfl HWF.out ?_; rw [HSeen.out])
          exact ⟨⟨k + 1, by omega, by go_num, HK3, Lib.hid ⟨nk, Sk, HD3.out, HSN.out⟩⟩, by simp [intOf]; omega⟩
      · have hnl : ¬ (k : Int) < (l.length : Int) := by omega
        obtain rfl : l.length = k := by omega
        go_wp2_with fail
        go_ret
        exact ⟨false, nk, Sk, lf, rf, rfl, HK1.out.trans HKr.out, HD.out, .inr ⟨rfl, rfl, rfl, HS.out.none fun q _ hq => HN.out.all q hq⟩⟩
end Go.Proofs.Ytbkgkgigcohbpaa
/- find: a maximum matching. -/
namespace Go.Proofs.Ytbkgkgigcohbpaa
open Go.RowKit Go.Shelf Go.Deep Sm
def FindW (w : World) (g : GrD) (L R : Nat) (e : Ending) (w' : World) : Prop := ∃ bl br lf rf, e = .returned (matV bl br L R) ∧ w.heap.size ≤ bl ∧ w.heap.size ≤ br ∧ MatW w' bl br L R lf rf ∧ FInv (edB g) L R lf rf L ∧ Below w.heap.size w w'
/-- find on its way -/
structure FL (w wr : World) (g : GrD) (v2 : Value) (bl br L R : Nat) (k : Nat) : Prop where
  bel : Below w.heap.size w wr
  gb : wr.heap[w.heap.size]? = some (.cells #[.int .i64 (L : Int), .int .i64 g.right, v2] 49 (0, 0))
  rb : wr.heap[w.heap.size + 1]? = some (.cells #[.slice none 0 0, .slice none 0 0] 66 (0, 0))
  st : ∃ lf rf, MatW wr bl br L R lf rf ∧ FInv (edB g) L R lf rf k
theorem FL.below {w wr W : World} {g : GrD} {v2 : Value} {bl br L R k : Nat} (h : FL w wr g v2 bl br L R k) (hb : Below wr.heap.size wr W) : FL w W g v2 bl br L R k := by
  obtain ⟨h1, h2, h3, lf, rf, ⟨m1, m2, m3⟩, h5⟩ := h
  exact ⟨h1.trans (hb.mono h1.size), (hb.block _ (lt_heap h2)).trans h2, (hb.block _ (lt_heap h3)).trans h3, lf, rf, ⟨m1, m2.of_block (hb.block _ m2.lt), m3.of_block (hb.block _ m3.lt)⟩, h5⟩
set_option maxHeartbeats 4000000 in
theorem find_any (w : World) (M : Nat → Prop) (v : Value) (g : GrD) (h : IsGraph w M v g) {L R : Nat} (hg : GOk g L R) : Calls Try.prog 36 #[v] w (FindW w g L R) := by
  have CN := fun W (hb : Below w.heap.size w W) => Lib.hid (newMatch_any W M v g (h.below hb) hg)
  obtain ⟨v2, rfl, h2⟩ := h
  have HE := Lib.hid h2
  have HG := Lib.hid hg
  rw [hg.left] at CN ⊢
  have hL512 := hg.l512
  clear h2 hg
  go_enter Try.func36, Try.ntmps36
  go_wp2_with fail
  refine nameW fun W1 hW1 => ?_
  have hB1 : Below w.heap.size w W1 := by rw [hW1.out]; exact ((Below.refl _ _).alloc (Nat.le_refl _) _).alloc (by simp) _
  have hk1 : W1.heap[w.heap.size]? = some (.cells #[.int .i64 (L : Int), .int .i64 g.right, v2] 49 (0, 0)) := by rw [hW1.out, heap_alloc_if, if_neg (by simp), heap_alloc_if, if_pos rfl]
  have hk2 : W1.heap[w.heap.size + 1]? = some (.cells #[.slice none 0 0, .slice none 0 0] 66 (0, 0)) := by rw [hW1.out, heap_alloc_if, if_pos (by simp)]
  clear hW1
  refine (CN W1 hB1).out.mono ?_
  rintro e w2 ⟨bl, br, rfl, hbl, hbr, hm, hb2⟩
  have hj1 := (hb2.block _ (lt_heap hk1)).trans hk1
  have hj2 := (hb2.block _ (lt_heap hk2)).trans hk2
  have hs1 := lt_heap hk2
  have hbl' : w.heap.size + 1 < bl := by omega
  have hbr' : w.heap.size + 1 < br := by omega
  have HF2 : Hid (FL w w2 g v2 bl br L R 0) := Lib.hid ⟨hB1.trans (hb2.mono hB1.size), hj1, hj2, _, _, hm, FInv.start⟩
  have c0 : w2.cell? ⟨w.heap.size, 0, none⟩ = some (.int .i64 (L : Int)) := cell_of hj1 rfl
  have hbl2 := hm.2.1.lt
  have hbr2 := hm.2.2.lt
  have hs2 : w.heap.size + 1 < w2.heap.size := lt_heap hj2
  clear hb2 hm hj1 hj2 hk1 hk2 hB1 CN hbl hbr hs1
  unfold matV
  go_upto_region 2 with fail
  refine nameC fun W3 hW3 => ?_
  have hB3 : Below w2.heap.size w2 W3 := by rw [hW3.out]; exact (Below.refl _ _).alloc (Nat.le_refl _) _
  have HMB : Hid (W3.heap[w2.heap.size]? = some (.cells #[.slice (some ⟨bl, 0, none⟩) L L, .slice (some ⟨br, 0, none⟩) R R] 66 (0, 0))) := Lib.hid (by rw [hW3.out, heap_alloc_if, if_pos rfl])
  have HF3 := Lib.hid (HF2.out.below hB3)
  have hs3 : w2.heap.size < W3.heap.size := lt_heap HMB.out
  have c1 : W3.cell? ⟨w.heap.size, 0, none⟩ = some (.int .i64 (L : Int)) := (hB3.cell (lt_of_cell c0)).trans c0
  obtain ⟨bm, hbm⟩ : ∃ bm, bm = w2.heap.size := ⟨_, rfl⟩
  rw [← hbm] at HMB hs2 hs3 hbl2 hbr2 ⊢
  have hbm2 : w.heap.size + 1 < bm := hs2
  clear hW3 hB3 c0 hs2 HF2 hbm
  go_wp2_with fail
  go_loopw [11] (fun q11 wr => ∃ k : Nat, k ≤ L ∧ q11 = .int .i64 (k : Int) ∧ Hid (FL w wr g v2 bl br L R k) ∧ Hid (wr.heap[bm]? = some (.cells #[.slice (some ⟨bl, 0, none⟩) L L, .slice (some ⟨br, 0, none⟩) R R] 66 (0, 0)))) (fun q _ => L - (intOf q).toNat)
  case atStart => exact ⟨0, Nat.zero_le _, rfl, HF3, HMB⟩
  case round =>
    obtain ⟨k, hk, rfl, HFL, HMR⟩ := hrel
    by_cases hlt : k < L
    · have hlt2 : (k : Int) < (L : Int) := by omega
      have hk0 : (0 : Int) ≤ (k : Int) := by omega
      have hmm := @run_makeMap Try.prog
      go_upto_region 8 with fail
      clear hmm
      refine nameC fun W4 hW4 => ?_
      have hmr := lt_heap HMR.out
      obtain ⟨lf, rf, ⟨q1, q2, q3⟩, q4⟩ := HFL.out.st
      have hB4 : Below wr.heap.size wr W4 := by rw [hW4.out]; exact (((Below.refl _ _).alloc (Nat.le_refl _) _).alloc (by simp) _).alloc (by simp; omega) _
      have hS4 : SetB Try.prog 3 4 .i64 W4 wr.heap.size 0 (fun _ => false) := by rw [hW4.out]; exact ((SetB.made wr).alloc _).alloc _
      have hs4 : W4.heap[wr.heap.size + 1]? = some (.cells #[.map (some wr.heap.size)] 73 (0, 0)) := by rw [hW4.out, heap_alloc_if, if_neg (by simp), heap_alloc_if, if_pos (by simp)]
      have hf4 : W4.heap[wr.heap.size + 1 + 1]? = some (.cells #[.func (.func 43) #[] #[ptr w.heap.size, ptr (wr.heap.size + 1), ptr bm, ptr (wr.heap.size + 1 + 1)]] 74 (0, 0)) := by rw [hW4.out, heap_alloc_if, if_pos (by simp)]; rfl
      clear hW4
      have hFL4 := HFL.out.below hB4
      have hbw := HFL.out.bel.size
      have hge : IsEdges w (NB [wr.heap.size, bl, br]) v2 g.edges := IsSl.mono HE.out (fun b hb _ => by simp [NB]; omega) (by decide)
      have hFW : FW w.heap.size W4 g w.heap.size (wr.heap.size + 1) bm (wr.heap.size + 1 + 1) bl br wr.heap.size L R :=
        ⟨⟨v2, by rw [HG.out.left]; exact hFL4.gb, IsSl.below hge hFL4.bel⟩, hs4, (hB4.block _ hmr).trans HMR.out, hf4, by simp; omega, by simp; omega, by simp; omega, by simp; omega, ⟨by omega, by omega, q1⟩, ⟨by omega, by omega, by omega⟩⟩
      have hAP : AP w.heap.size W4 g w.heap.size (wr.heap.size + 1) bm (wr.heap.size + 1 + 1) bl br wr.heap.size L R 0 (fun _ => false) lf rf k :=
        ⟨hFW, ⟨hS4, q2.of_block (hB4.block _ q2.lt), q3.of_block (hB4.block _ q3.lt), by rw [Nat.zero_add]; exact unseen_none R⟩, q4.inv, hlt, fun h0 => absurd (q4.free k hlt (Nat.le_refl _)) (by omega)⟩
      have CA := Lib.hid (aug_any w.heap.size g _ _ _ _ _ _ _ L R HG.out R W4 0 _ lf rf k hAP (unseen_none R))
      have HFL4 := Lib.hid hFL4
      have HQ4 := Lib.hid q4
      have HQ1 := Lib.hid q1
      have hfc : W4.cell? ⟨wr.heap.size + 1 + 1, 0, none⟩ = some (.func (.func 43) #[] #[ptr w.heap.size, ptr (wr.heap.size + 1), ptr bm, ptr (wr.heap.size + 1 + 1)]) := cell_of hf4 rfl
      unfold ptr at hfc
      have HM4 := Lib.hid ((hB4.block _ hmr).trans HMR.out)
      clear hs4 hf4 hFW hAP hge hFL4 hS4 q1 q2 q3 q4 hB4
      go_wp2_with fail
      refine CA.out.mono ?_
      rintro e w5 ⟨ok, n5, S5, lf5, rf5, rfl, hk5, hd5, hr5⟩
      have hFLn : FL w w5 g v2 bl br L R (k + 1) := by
        have hnb : ∀ b, b < wr.heap.size → b ≠ bl → b ≠ br → b ∉ [wr.heap.size, bl, br] := fun b h1 h2 h3 => by simp; exact ⟨by omega, h2, h3⟩
        refine ⟨HFL4.out.bel.trans hk5.bel, (hk5.kp.block _ (lt_heap HFL4.out.gb) (hnb _ (by omega) (by omega) (by omega))).trans HFL4.out.gb, (hk5.kp.block _ (lt_heap HFL4.out.rb) (hnb _ (by omega) (by omega) (by omega))).trans HFL4.out.rb, lf5, rf5, ⟨HQ1.out, hd5.left, hd5.right⟩, ?_⟩
        rcases hr5 with ⟨-, hy⟩ | ⟨-, rfl, rfl, hn⟩
        · exact HQ4.out.yes hlt hy
        · exact HQ4.out.no hn
      have HFLn := Lib.hid hFLn
      have HMn := Lib.hid ((hk5.kp.block bm (lt_heap HM4.out) (by simp; omega)).trans HM4.out)
      clear hk5 hd5 hr5 hFLn hfc
      go_wp2_with fail
      go_roundw
      case rel => exact ⟨k + 1, by omega, by go_num, HFLn, HMn⟩
      case measure => simp [intOf]; omega
    · have hnl : ¬ (k : Int) < (L : Int) := by omega
      obtain rfl : L = k := by omega
      have m0 : wr.cell? ⟨bm, 0, none⟩ = some (.slice (some ⟨bl, 0, none⟩) L L) := cell_of HMR.out rfl
      have m1 : wr.cell? ⟨bm, 1, none⟩ = some (.slice (some ⟨br, 0, none⟩) R R) := cell_of HMR.out rfl
      have r0 : wr.cell? ⟨w.heap.size + 1, 0, none⟩ = some (.slice none 0 0) := cell_of HFL.out.rb rfl
      have r1 : wr.cell? ⟨w.heap.size + 1, 1, none⟩ = some (.slice none 0 0) := cell_of HFL.out.rb rfl
      have f0 : wr.frozen? ⟨w.heap.size + 1, 0, none⟩ = false := frz_at HFL.out.rb
      have f1 : wr.frozen? ⟨w.heap.size + 1, 1, none⟩ = false := frz_at HFL.out.rb
      go_wp2_with fail
      refine bodyPost_ret (v := matV bl br L R) (by simp [results, Try.results36, go_sem, matV, r0, r1]) rfl ?_
      obtain ⟨lf, rf, ⟨q1, q2, q3⟩, q4⟩ := HFL.out.st
      exact ⟨bl, br, lf, rf, rfl, by omega, by omega, ⟨q1, (q2.setOther (a := ⟨w.heap.size + 1, 0, none⟩) (by show bl ≠ w.heap.size + 1; omega) _).setOther (a := ⟨w.heap.size + 1, 1, none⟩) (by show bl ≠ w.heap.size + 1; omega) _, (q3.setOther (a := ⟨w.heap.size + 1, 0, none⟩) (by show br ≠ w.heap.size + 1; omega) _).setOther (a := ⟨w.heap.size + 1, 1, none⟩) (by show br ≠ w.heap.size + 1; omega) _⟩, q4, (HFL.out.bel.setCell (by show w.heap.size ≤ w.heap.size + 1; omega) _).setCell (by show w.heap.size ≤ w.heap.size + 1; omega) _⟩
end Go.Proofs.Ytbkgkgigcohbpaa
