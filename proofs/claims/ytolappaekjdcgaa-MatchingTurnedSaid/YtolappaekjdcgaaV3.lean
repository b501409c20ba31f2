/- The reference: Has, Covers, Neighbours; few. -/
import Derived.Test.YtolappaekjdcgaaV2
import Derived.Test.YtolappaekjdcgaaB1
namespace Go.Proofs.Ytolappaekjdcgaa
open Go.RowKit
def fewB (g : GrD) : Bool := decide (g.edges.length ≤ 60) && (decide (g.left ≤ 40) && decide (g.right ≤ 40))
def BoolW (z : Bool) (w : World) (e : Ending) (w' : World) : Prop := e = .returned (.bool z) ∧ Below w.heap.size w w'
theorem few_any (w : World) (M : Nat → Prop) (v : Value) (g : GrD) (h : IsGraph w M v g) : Calls Try.prog 15 #[v] w (BoolW (fewB g) w) := by
  obtain ⟨v2, rfl, h2⟩ := h
  obtain ⟨A, c, rfl, -, -, -⟩ := h2
  have HV : Hid (fewB g = (decide (g.edges.length ≤ 60) && (decide (g.left ≤ 40) && decide (g.right ≤ 40)))) := rfl
  obtain ⟨z, hz⟩ : ∃ z, z = fewB g := ⟨_, rfl⟩
  rw [← hz] at HV ⊢
  clear hz
  generalize g.left = L at HV ⊢
  generalize g.right = R at HV ⊢
  by_cases h1 : g.edges.length ≤ 60
  · by_cases h2 : L ≤ 40
    · cases h3 : decide (R ≤ 40)
      · have HZ : Hid (z = false) := Lib.hid (by rw [HV.out, h3, Bool.and_false, Bool.and_false])
        go_enter Try.func15, Try.ntmps15
        go_wp2_with fail
        go_ret
        exact ⟨ret_bool HZ.out.symm, (Below.refl _ _).alloc (Nat.le_refl _) _⟩
      · have HZ : Hid (z = true) := Lib.hid (by rw [HV.out, h3, decide_eq_true h1, decide_eq_true h2]; rfl)
        go_enter Try.func15, Try.ntmps15
        go_wp2_with fail
        go_ret
        exact ⟨ret_bool HZ.out.symm, (Below.refl _ _).alloc (Nat.le_refl _) _⟩
    · have HZ : Hid (z = false) := Lib.hid (by rw [HV.out, decide_eq_false h2, Bool.false_and, Bool.and_false])
      have h22 : ¬ L ≤ 40 := h2
      go_enter Try.func15, Try.ntmps15
      go_wp2_with fail
      go_ret
      exact ⟨ret_bool HZ.out.symm, (Below.refl _ _).alloc (Nat.le_refl _) _⟩
  · have HZ : Hid (z = false) := Lib.hid (by rw [HV.out, decide_eq_false h1, Bool.false_and])
    have h12 : ¬ (g.edges.length : Int) ≤ 60 := by omega
    go_enter Try.func15, Try.ntmps15
    go_wp2_with fail
    go_ret
    exact ⟨ret_bool HZ.out.symm, (Below.refl _ _).alloc (Nat.le_refl _) _⟩
/-- f is not among the first k -/
def noE25 (l : List (Int × Int)) (f : Int × Int) (k : Nat) : Prop := ∀ j, j < k → nthE l j ≠ f
theorem noE25_succ {l : List (Int × Int)} {x : Int × Int} {k : Nat} (h : noE25 l x k) (hne : nthE l k ≠ x) : noE25 l x (k + 1) := fun j hj => by
  rcases Nat.lt_or_ge j k with h1 | h1
  · exact h j h1
  · rw [show j = k by omega]; exact hne
theorem noE25_all {l : List (Int × Int)} {x : Int × Int} (h : noE25 l x l.length) : l.contains x = false := by
  rw [Bool.eq_false_iff]
  intro hc
  rw [List.contains_iff_mem, List.mem_iff_getElem] at hc
  obtain ⟨j, hj, e⟩ := hc
  exact h j hj (by rw [nthE_get hj]; exact e)
theorem hasE25 {l : List (Int × Int)} {x : Int × Int} {k : Nat} (hk : k < l.length) (h : nthE l k = x) : l.contains x = true := by
  rw [List.contains_iff_mem, ← h, nthE_get hk]
  exact List.getElem_mem hk
set_option maxHeartbeats 1000000 in
theorem has_any (w : World) (M : Nat → Prop) (v : Value) (g : GrD) (h : IsGraph w M v g) (x y : Int) : Calls Try.prog 27 #[v, .int .i64 x, .int .i64 y] w (BoolW (g.edges.contains (x, y)) w) := by
  obtain ⟨v2, rfl, h2⟩ := h
  have HE := Lib.hid h2
  obtain ⟨A, c, rfl, hl1, hl2, -⟩ := h2
  have HY := Lib.hid (fun k hk h => @hasE25 g.edges (x, y) k hk h)
  have HN := Lib.hid (fun h => @noE25_all g.edges (x, y) h)
  obtain ⟨z, hz⟩ : ∃ z, z = g.edges.contains (x, y) := ⟨_, rfl⟩
  rw [← hz] at HY HN ⊢
  clear hz
  go_enter Try.func27, Try.ntmps27
  go_wp2_with fail
  go_loopw [7] (fun q wr => ∃ k : Nat, k ≤ g.edges.length ∧ q = .int .i64 (k : Int) ∧ Hid (noE25 g.edges (x, y) k) ∧ Hid (Below w.heap.size w wr) ∧ wr.heap[w.heap.size]? = some (.cells #[.int .i64 g.left, .int .i64 g.right, .slice A g.edges.length c] 24 (0, 0))) (fun q _ => g.edges.length - (intOf q).toNat)
  case atStart => exact ⟨0, Nat.zero_le _, rfl, Lib.hid (fun j hj => absurd hj (by omega)), Lib.hid ((Below.refl w.heap.size w).alloc (Nat.le_refl _) _), by simp only [heap_alloc_if]; rw [if_pos trivial]⟩
  case round =>
    obtain ⟨k, hk, rfl, HS, HB, hbox⟩ := hrel
    have HX := Lib.hid hbox
    obtain ⟨g0, g1, g2⟩ := graph_box hbox
    clear hbox
    by_cases hlt : k < g.edges.length
    · have hlt2 : (k : Int) < (g.edges.length : Int) := by omega
      have hk0 : (0 : Int) ≤ (k : Int) := by omega
      obtain ⟨b, off, rfl, hb, e0, e1⟩ := HE.out.at_ HB.out hlt
      rw [← nthE_get hlt] at e0 e1
      have HSn := Lib.hid (fun h => noE25_succ HS.out (k := k) h)
      have HYk := Lib.hid (HY.out k hlt)
      obtain ⟨a, ha⟩ : ∃ a, a = nthE g.edges k := ⟨_, rfl⟩
      rw [← ha] at e0 e1 HSn HYk
      obtain ⟨p, q⟩ := a
      clear ha
      dsimp only at e0 e1
      by_cases hp : p = x
      · by_cases hq : q = y
        · have HZ := Lib.hid (HYk.out (by rw [hp, hq]))
          have t1 : (p == x) = true := by simp [hp]
          have t2 : (q == y) = true := by simp [hq]
          clear hp hq
          go_wp2_with fail
          go_ret
          exact ⟨ret_bool HZ.out.symm, HB.out⟩
        · have HZ := Lib.hid (HSn.out (by intro e; exact hq (congrArg Prod.snd e)))
          have t1 : (p == x) = true := by simp [hp]
          have t2 : (q == y) = false := by simpa using hq
          clear hp hq
          go_wp2_with fail
          go_roundw
          case rel => exact ⟨k + 1, by omega, by go_num, HZ, HB, HX.out⟩
          case measure => simp [intOf]; omega
      · have HZ := Lib.hid (HSn.out (by intro e; exact hp (congrArg Prod.fst e)))
        have t1 : (p == x) = false := by simpa using hp
        clear hp
        go_wp2_with fail
        all_goals
          go_roundw
          case rel => exact ⟨k + 1, by omega, by go_num, HZ, HB, HX.out⟩
          case measure => simp [intOf]; omega
    · have hnl : ¬ (k : Int) < (g.edges.length : Int) := by omega
      obtain rfl : g.edges.length = k := by omega
      have HZ := Lib.hid (HN.out HS.out)
      go_wp2_with fail
      go_ret
      exact ⟨ret_bool HZ.out.symm, HB.out⟩
/-- the edges that a and b cover -/
def cov1 (a b : List Int) (e : Int × Int) : Bool := a.contains e.1 || b.contains e.2
def coversB (g : GrD) (a b : List Int) : Bool := g.edges.all (cov1 a b) && (setB a g.left && setB b g.right)
def covTo (l : List (Int × Int)) (a b : List Int) (k : Nat) : Prop := ∀ j, j < k → cov1 a b (nthE l j) = true
theorem covTo_succ {l : List (Int × Int)} {a b : List Int} {k : Nat} (h : covTo l a b k) (hk : cov1 a b (nthE l k) = true) : covTo l a b (k + 1) := fun j hj => by
  rcases Nat.lt_or_ge j k with h1 | h1
  · exact h j h1
  · rw [show j = k by omega]; exact hk
theorem covers_no {g : GrD} {a b : List Int} {k : Nat} (hk : k < g.edges.length) (h : cov1 a b (nthE g.edges k) = false) : coversB g a b = false := by
  unfold coversB
  rw [nthE_get hk] at h
  rw [List.all_eq_false.2 ⟨_, List.getElem_mem hk, by rw [h]; decide⟩, Bool.false_and]
theorem covers_all {g : GrD} {a b : List Int} (h : covTo g.edges a b g.edges.length) : coversB g a b = (setB a g.left && setB b g.right) := by
  unfold coversB
  rw [List.all_eq_true.2 fun x hx => ?_, Bool.true_and]
  obtain ⟨i, hi, rfl⟩ := List.mem_iff_getElem.1 hx
  rw [← nthE_get hi]
  exact h i hi
set_option maxHeartbeats 1000000 in
theorem covers_any (w : World) (M Ma Mb : Nat → Prop) (v va vb : Value) (g : GrD) (a b : List Int) (h : IsGraph w M v g) (ha : IsInts w Ma va a) (hb : IsInts w Mb vb b) : Calls Try.prog 20 #[v, va, vb] w (BoolW (coversB g a b) w) := by
  obtain ⟨v2, rfl, h2⟩ := h
  have HE := Lib.hid h2
  have HA := Lib.hid ha
  have HBB := Lib.hid hb
  obtain ⟨A, c, rfl, hl1, hl2, -⟩ := h2
  have HNo := Lib.hid (fun k hk h => @covers_no g a b k hk h)
  have HAll := Lib.hid (@covers_all g a b)
  obtain ⟨z, hz⟩ : ∃ z, z = coversB g a b := ⟨_, rfl⟩
  rw [← hz] at HNo HAll ⊢
  obtain ⟨L, hL⟩ : ∃ L, L = g.left := ⟨_, rfl⟩
  obtain ⟨R, hR⟩ : ∃ R, R = g.right := ⟨_, rfl⟩
  rw [← hL, ← hR] at HAll ⊢
  clear hz ha hb hL hR
  go_enter Try.func20, Try.ntmps20
  go_wp2_with fail
  go_loopw [7] (fun q wr => ∃ k : Nat, k ≤ g.edges.length ∧ q = .int .i64 (k : Int) ∧ Hid (covTo g.edges a b k) ∧ Hid (Below w.heap.size w wr) ∧ wr.heap[w.heap.size]? = some (.cells #[.int .i64 L, .int .i64 R, .slice A g.edges.length c] 24 (0, 0))) (fun q _ => g.edges.length - (intOf q).toNat)
  case atStart => exact ⟨0, Nat.zero_le _, rfl, Lib.hid (fun j hj => absurd hj (by omega)), Lib.hid ((Below.refl w.heap.size w).alloc (Nat.le_refl _) _), by simp only [heap_alloc_if]; rw [if_pos trivial]⟩
  case round =>
    obtain ⟨k, hk, rfl, HS, HB, hbox⟩ := hrel
    have HX := Lib.hid hbox
    obtain ⟨g0, g1, g2⟩ := graph_box hbox
    clear hbox
    have CA := fun x => Lib.hid (member_any wr Ma va a (IsSl.below HA.out HB.out) x)
    have CB := fun x => Lib.hid (member_any wr Mb vb b (IsSl.below HBB.out HB.out) x)
    by_cases hlt : k < g.edges.length
    · have hlt2 : (k : Int) < (g.edges.length : Int) := by omega
      have hk0 : (0 : Int) ≤ (k : Int) := by omega
      obtain ⟨bb, off, rfl, hb, e0, e1⟩ := HE.out.at_ HB.out hlt
      rw [← nthE_get hlt] at e0 e1
      have HSn := Lib.hid (fun h => covTo_succ HS.out (k := k) h)
      have HNk := Lib.hid (HNo.out k hlt)
      obtain ⟨x, hx⟩ : ∃ a, a = nthE g.edges k := ⟨_, rfl⟩
      rw [← hx] at e0 e1 HSn HNk
      obtain ⟨p, q⟩ := x
      clear hx
      dsimp only at e0 e1
      have CP := CA p
      have CQ := CB q
      have HOV : Hid (cov1 a b (p, q) = (a.contains p || b.contains q)) := rfl
      clear CA CB
      cases hp : a.contains p
      · rw [hp] at CP HOV
        cases hq : b.contains q
        · rw [hq] at CQ HOV
          have HZ := Lib.hid (HNk.out (by rw [HOV.out]; rfl))
          clear hp hq
          go_wp2_with fail
          refine CP.out.mono ?_
          rintro e w' ⟨rfl, rfl⟩
          go_wp2_with fail
          refine CQ.out.mono ?_
          rintro e w' ⟨rfl, rfl⟩
          go_wp2_with fail
          go_ret
          exact ⟨ret_bool HZ.out.symm, HB.out⟩
        · rw [hq] at CQ HOV
          have HZ := Lib.hid (HSn.out (by rw [HOV.out]; rfl))
          clear hp hq
          go_wp2_with fail
          refine CP.out.mono ?_
          rintro e w' ⟨rfl, rfl⟩
          go_wp2_with fail
          refine CQ.out.mono ?_
          rintro e w' ⟨rfl, rfl⟩
          go_wp2_with fail
          go_roundw
          case rel => exact ⟨k + 1, by omega, by go_num, HZ, HB, HX.out⟩
          case measure => simp [intOf]; omega
      · rw [hp] at CP HOV
        have HZ := Lib.hid (HSn.out (by rw [HOV.out]; rfl))
        clear hp
        go_wp2_with fail
        refine CP.out.mono ?_
        rintro e w' ⟨rfl, rfl⟩
        go_wp2_with fail
        go_roundw
        case rel => exact ⟨k + 1, by omega, by go_num, HZ, HB, HX.out⟩
        case measure => simp [intOf]; omega
    · have hnl : ¬ (k : Int) < (g.edges.length : Int) := by omega
      obtain rfl : g.edges.length = k := by omega
      have HZ := Lib.hid (HAll.out HS.out)
      have C1 := Lib.hid (set_any wr Ma va a (IsSl.below HA.out HB.out) L)
      have C2 := fun W (hb : Below wr.heap.size wr W) => Lib.hid (set_any W Mb vb b (IsSl.below (IsSl.below HBB.out HB.out) hb) R)
      clear CA CB
      cases h1 : setB a L
      · rw [h1] at C1 HZ
        clear h1
        go_wp2_with fail
        refine C1.out.mono ?_
        rintro e w1 ⟨rfl, q1, rfl⟩
        go_wp2_with fail
        go_ret
        exact ⟨ret_bool (by rw [HZ.out, Bool.false_and]), below_drewN HB.out _⟩
      · rw [h1] at C1 HZ
        clear h1
        go_wp2_with fail
        refine C1.out.mono ?_
        rintro e w1 ⟨rfl, q1, hw1⟩
        have HB1 : Hid (Below wr.heap.size wr w1) := by rw [hw1]; exact below_drewN (Below.refl _ _) _
        obtain ⟨g0, g1, g2⟩ := graph_box ((HB1.out.block _ (lt_heap HX.out)).trans HX.out)
        clear hw1
        go_wp2_with fail
        refine (C2 w1 HB1.out).out.mono ?_
        rintro e w2 ⟨rfl, q2, hw2⟩
        have HB2 : Hid (Below w.heap.size w w2) := by rw [hw2]; exact below_drewN (HB.out.trans (HB1.out.mono HB.out.size)) _
        clear hw2
        go_wp2_with fail
        go_ret
        exact ⟨ret_bool (by rw [HZ.out, Bool.true_and]), HB2.out⟩
end Go.Proofs.Ytolappaekjdcgaa
