/- Check of package matching. -/
import Derived.Test.YtolappaekjdcgaaA4
namespace Go.Proofs.Ytolappaekjdcgaa
open Go.RowKit
theorem sizeOk_no1 {g : GrD} (h : g.left < 0) : chkB g = false := chk_size (by unfold sizeOk; rw [decide_eq_false (by omega), Bool.false_and])
theorem sizeOk_no2 {g : GrD} (h : 512 < g.left) : chkB g = false := chk_size (by unfold sizeOk; rw [decide_eq_false (p := g.left ≤ 512) (by omega), Bool.false_and, Bool.and_false])
theorem sizeOk_no3 {g : GrD} (h : g.right < 0) : chkB g = false := chk_size (by unfold sizeOk; rw [decide_eq_false (p := 0 ≤ g.right) (by omega), Bool.false_and, Bool.and_false, Bool.and_false])
theorem sizeOk_no4 {g : GrD} (h : 512 < g.right) : chkB g = false := chk_size (by unfold sizeOk; rw [decide_eq_false (p := g.right ≤ 512) (by omega), Bool.false_and, Bool.and_false, Bool.and_false, Bool.and_false])
theorem sizeOk_no5 {g : GrD} (h : 4096 < g.edges.length) : chkB g = false := chk_size (by unfold sizeOk; rw [decide_eq_false (p := g.edges.length ≤ 4096) (by omega), Bool.and_false, Bool.and_false, Bool.and_false, Bool.and_false])
theorem sizeOk_yes {g : GrD} (h1 : ¬ g.left < 0) (h2 : ¬ 512 < g.left) (h3 : ¬ g.right < 0) (h4 : ¬ 512 < g.right) (h5 : ¬ 4096 < g.edges.length) : sizeOk g = true := by
  unfold sizeOk
  simp only [Bool.and_eq_true, decide_eq_true_eq]
  omega
def RetE (z : Int) (w : World) (e : Ending) (w' : World) : Prop := e = .returned (.int .i64 z) ∧ Below w.heap.size w w'
set_option maxHeartbeats 1000000 in
theorem mcheck_any (w : World) (M : Nat → Prop) (v : Value) (g : GrD) (h : IsGraph w M v g) : Calls Try.prog 11 #[v] w (RetE (chkG g) w) := by
  obtain ⟨v2, rfl, h⟩ := h
  have H := Lib.hid h
  obtain ⟨A, c, rfl, h1, h2, -⟩ := h
  have HNo := Lib.hid (@chkG_no g)
  have HYes := Lib.hid (@chkG_yes g)
  obtain ⟨z, hz⟩ : ∃ z, z = chkG g := ⟨_, rfl⟩
  rw [← hz] at HNo HYes ⊢
  clear hz
  obtain ⟨L, hL⟩ : ∃ L, L = g.left := ⟨_, rfl⟩
  obtain ⟨R, hR⟩ : ∃ R, R = g.right := ⟨_, rfl⟩
  rw [← hL, ← hR]
  by_cases t1 : L < 0
  · have HZ := Lib.hid (HNo.out (sizeOk_no1 (hL ▸ t1)))
    clear hL hR
    go_enter Try.func11, Try.ntmps11
    go_wp2_with fail
    go_ret
    exact ⟨ret_int HZ.out.symm, (Below.refl _ _).alloc (Nat.le_refl _) _⟩
  by_cases t2 : 512 < L
  · have HZ := Lib.hid (HNo.out (sizeOk_no2 (hL ▸ t2)))
    clear hL hR
    go_enter Try.func11, Try.ntmps11
    go_wp2_with fail
    go_ret
    exact ⟨ret_int HZ.out.symm, (Below.refl _ _).alloc (Nat.le_refl _) _⟩
  by_cases t3 : R < 0
  · have HZ := Lib.hid (HNo.out (sizeOk_no3 (hR ▸ t3)))
    clear hL hR
    go_enter Try.func11, Try.ntmps11
    go_wp2_with fail
    go_ret
    exact ⟨ret_int HZ.out.symm, (Below.refl _ _).alloc (Nat.le_refl _) _⟩
  by_cases t4 : 512 < R
  · have HZ := Lib.hid (HNo.out (sizeOk_no4 (hR ▸ t4)))
    clear hL hR
    go_enter Try.func11, Try.ntmps11
    go_wp2_with fail
    go_ret
    exact ⟨ret_int HZ.out.symm, (Below.refl _ _).alloc (Nat.le_refl _) _⟩
  by_cases t5 : (4096 : Int) < (g.edges.length : Int)
  · have HZ := Lib.hid (HNo.out (sizeOk_no5 (by omega)))
    clear hL hR
    go_enter Try.func11, Try.ntmps11
    go_wp2_with fail
    go_ret
    exact ⟨ret_int HZ.out.symm, (Below.refl _ _).alloc (Nat.le_refl _) _⟩
  have HSZ := Lib.hid (sizeOk_yes (hL ▸ t1) (hL ▸ t2) (hR ▸ t3) (hR ▸ t4) (by omega))
  have HEdge := fun k (hk : k < g.edges.length) (h : okE g k = false) => Lib.hid (HNo.out (chk_no hk h))
  have HOK : ∀ k, Hid (okE g k = (decide (0 ≤ (nthE g.edges k).1) && (decide ((nthE g.edges k).1 < L) && (decide (0 ≤ (nthE g.edges k).2) && (decide ((nthE g.edges k).2 < R) && (decide (k = 0) || decide (ordE (nthE g.edges (k - 1)) (nthE g.edges k) < 0))))))) := fun k => Lib.hid (by rw [hL, hR]; rfl)
  have HLR := Lib.hid (And.intro hL hR)
  clear hL hR
  go_enter Try.func11, Try.ntmps11
  go_wp2_with fail
  go_loopw [32] (fun q32 wr => ∃ k : Nat, k ≤ g.edges.length ∧ q32 = .int .i64 (k : Int) ∧ Hid (okTo g k) ∧ Hid (Below w.heap.size w wr) ∧ wr.heap[w.heap.size]? = some (.cells #[.int .i64 L, .int .i64 R, .slice A g.edges.length c] 24 (0, 0))) (fun q _ => g.edges.length - (intOf q).toNat)
  case atStart => exact ⟨0, Nat.zero_le _, rfl, Lib.hid okTo_zero, Lib.hid ((Below.refl w.heap.size w).alloc (Nat.le_refl _) _), by simp only [heap_alloc_if]; rw [if_pos trivial]⟩
  case round =>
    obtain ⟨k, hk, rfl, HT, HB, hbox⟩ := hrel
    have HX := Lib.hid hbox
    have hbl := lt_heap hbox
    have g0 := cell_of (j := 0) hbox rfl
    have g1 := cell_of (j := 1) hbox rfl
    have g2 := cell_of (j := 2) hbox rfl
    clear hbox
    by_cases hlt : k < g.edges.length
    · have hlt2 : (k : Int) < (g.edges.length : Int) := by omega
      have hk0 : (0 : Int) ≤ (k : Int) := by omega
      obtain ⟨b, off, rfl, hb, e0, e1⟩ := H.out.at_ HB.out hlt
      rw [← nthE_get hlt] at e0 e1
      have hbw : b < wr.heap.size := Nat.lt_of_lt_of_le hb HB.out.size
      have HE := HEdge k hlt
      have HO := HOK k
      have HS := Lib.hid (okTo_succ HT.out (k := k))
      have CO := fun W => Lib.hid (order_any W (nthE g.edges (k - 1)) (nthE g.edges k))
      have HPrev : Hid (0 < k → wr.cell? ⟨b, off + (k - 1) * 2, none⟩ = some (.int .i64 (nthE g.edges (k - 1)).1) ∧ wr.cell? ⟨b, off + (k - 1) * 2 + 1, none⟩ = some (.int .i64 (nthE g.edges (k - 1)).2)) := Lib.hid (fun h0 => by
        obtain ⟨b', off', e, -, p0, p1⟩ := H.out.at_ HB.out (show k - 1 < g.edges.length by omega)
        cases e
        rw [nthE_get (by omega)]
        exact ⟨p0, p1⟩)
      obtain ⟨a, ha⟩ : ∃ a, a = nthE g.edges k := ⟨_, rfl⟩
      obtain ⟨p, hp⟩ : ∃ p, p = nthE g.edges (k - 1) := ⟨_, rfl⟩
      rw [← ha] at e0 e1 HO CO
      rw [← hp] at HO CO HPrev
      obtain ⟨x, y⟩ := a
      obtain ⟨px, py⟩ := p
      clear ha hp HEdge HOK
      dsimp only at e0 e1 HO CO HPrev
      by_cases s0 : x < 0
      · have ds0 : decide (x < 0) = true := decide_eq_true s0
        have HZ := HE (by rw [HO.out, decide_eq_false (p := 0 ≤ x) (by omega)]; simp)
        go_wp2_with fail
        go_quiet (fail)
        go_wp2_with fail
        go_ret
        exact ⟨ret_int HZ.out.symm, HB.out.trans (Below.mono (by repeat (first | exact Below.refl _ _ | refine Below.drew ?_ | refine below_drewN ?_ _ | refine Below.alloc ?_ (by first | exact Nat.le_refl _ | (simp; done) | (simp; omega)) _)) HB.out.size)⟩
      have ds0 : decide (x < 0) = false := decide_eq_false s0
      by_cases s1 : L ≤ x
      · have ds1 : decide (L ≤ x) = true := decide_eq_true s1
        have HZ := HE (by rw [HO.out, decide_eq_false (p := x < L) (by omega)]; simp)
        go_wp2_with fail
        go_quiet (fail)
        go_wp2_with fail
        go_ret
        exact ⟨ret_int HZ.out.symm, HB.out.trans (Below.mono (by repeat (first | exact Below.refl _ _ | refine Below.drew ?_ | refine below_drewN ?_ _ | refine Below.alloc ?_ (by first | exact Nat.le_refl _ | (simp; done) | (simp; omega)) _)) HB.out.size)⟩
      have ds1 : decide (L ≤ x) = false := decide_eq_false s1
      by_cases s2 : y < 0
      · have ds2 : decide (y < 0) = true := decide_eq_true s2
        have HZ := HE (by rw [HO.out, decide_eq_false (p := 0 ≤ y) (by omega)]; simp)
        go_wp2_with fail
        go_quiet (fail)
        go_wp2_with fail
        go_ret
        exact ⟨ret_int HZ.out.symm, HB.out.trans (Below.mono (by repeat (first | exact Below.refl _ _ | refine Below.drew ?_ | refine below_drewN ?_ _ | refine Below.alloc ?_ (by first | exact Nat.le_refl _ | (simp; done) | (simp; omega)) _)) HB.out.size)⟩
      have ds2 : decide (y < 0) = false := decide_eq_false s2
      by_cases s3 : R ≤ y
      · have ds3 : decide (R ≤ y) = true := decide_eq_true s3
        have HZ := HE (by rw [HO.out, decide_eq_false (p := y < R) (by omega)]; simp)
        go_wp2_with fail
        go_quiet (fail)
        go_wp2_with fail
        go_ret
        exact ⟨ret_int HZ.out.symm, HB.out.trans (Below.mono (by repeat (first | exact Below.refl _ _ | refine Below.drew ?_ | refine below_drewN ?_ _ | refine Below.alloc ?_ (by first | exact Nat.le_refl _ | (simp; done) | (simp; omega)) _)) HB.out.size)⟩
      have ds3 : decide (R ≤ y) = false := decide_eq_false s3
      rcases Nat.eq_zero_or_pos k with hk00 | hkp
      · have HN := Lib.hid (HS.out (by rw [HO.out, decide_eq_true (p := 0 ≤ x) (by omega), decide_eq_true (p := x < L) (by omega), decide_eq_true (p := 0 ≤ y) (by omega), decide_eq_true (p := y < R) (by omega), decide_eq_true hk00]; rfl))
        have dk : decide ((0 : Int) < (k : Int)) = false := decide_eq_false (by omega)
        have dk2 : decide (0 < k) = false := decide_eq_false (by omega)
        have HK := Lib.hid hk00
        clear HO HE HS CO HPrev hk00
        go_wp2_with fail
        go_quiet (fail)
        go_wp2_with fail
        go_roundw
        case rel => exact ⟨k + 1, by omega, by go_num, HN, Lib.hid (HB.out.trans (Below.mono (by repeat (first | exact Below.refl _ _ | refine Below.drew ?_ | refine below_drewN ?_ _ | refine Below.alloc ?_ (by first | exact Nat.le_refl _ | (simp; done) | (simp; omega)) _)) HB.out.size)), (Below.block (w := wr) (B := wr.heap.size) (by repeat (first | exact Below.refl _ _ | refine Below.drew ?_ | refine below_drewN ?_ _ | refine Below.alloc ?_ (by first | exact Nat.le_refl _ | (simp; done) | (simp; omega)) _)) w.heap.size hbl).trans HX.out⟩
        case measure => simp [intOf]; omega
      · have dk : decide ((0 : Int) < (k : Int)) = true := decide_eq_true (by omega)
        obtain ⟨p0, p1⟩ := HPrev.out hkp
        obtain ⟨m, rfl⟩ : ∃ m, k = m + 1 := ⟨k - 1, by omega⟩
        rw [Nat.add_sub_cancel] at p0 p1
        have hm1 : ((m + 1 : Nat) : Int) = (m : Int) + 1 := by omega
        rw [hm1] at dk hlt2 hk0 ⊢
        have hsub : (m : Int) + 1 - 1 = (m : Int) := by omega
        have hml : (m : Int) < (g.edges.length : Int) := by omega
        have hmn : m < g.edges.length := by omega
        have hw1 : IntKind.i64.wrap ((m : Int) + 1 - 1) = (m : Int) := by rw [hsub]; exact IntWalk.i64_in _ (by omega)
        have hw2 : IntKind.i64.wrap (m : Int) = (m : Int) := IntWalk.i64_in _ (by omega)
        have hm0 : (0 : Int) ≤ (m : Int) := by omega
        obtain ⟨r, hr⟩ : ∃ r, r = ordE (px, py) (x, y) := ⟨_, rfl⟩
        rw [← hr] at HO CO
        clear hr HPrev hm1
        have dk2 : decide (0 < m + 1) = true := decide_eq_true (by omega)
        have hxl : w.heap.size < wr.heap.size := hbl
        have m0 : wr.heap.size + 0 < wr.heap.size + 1 := by omega
        have HW0 : Hid (∀ W, Below (wr.heap.size + 1) (wr.alloc (.cells #[.int .i64 x, .int .i64 y] 46)) W → (W.cell? ⟨b, off + m * 2, none⟩ = some (.int .i64 px) ∧ W.cell? ⟨b, off + m * 2 + 1, none⟩ = some (.int .i64 py)) ∧ (W.cell? ⟨wr.heap.size, 0, none⟩ = some (.int .i64 x) ∧ W.cell? ⟨wr.heap.size, 1, none⟩ = some (.int .i64 y)) ∧ Below wr.heap.size wr W) := Lib.hid (fun W hW => by
          have h0 : Below wr.heap.size wr W := ((Below.refl _ _).alloc (Nat.le_refl _) _).trans (hW.mono (by omega))
          have h1 : W.heap[wr.heap.size]? = some (.cells #[.int .i64 x, .int .i64 y] 46 (0, 0)) := (hW.block _ (by omega)).trans (by rw [heap_alloc_if, if_pos rfl])
          exact ⟨⟨(h0.cell (p := ⟨b, _, none⟩) hbw).trans p0, (h0.cell (p := ⟨b, _, none⟩) hbw).trans p1⟩, ⟨cell_of (j := 0) h1 rfl, cell_of (j := 1) h1 rfl⟩, h0⟩)
        obtain ⟨⟨r0, r1⟩, ⟨r2, r3⟩, -⟩ := HW0.out _ (Below.refl _ _)
        clear m0 p0 p1
        by_cases hr0 : 0 ≤ r
        · have HN := HE (by rw [HO.out, decide_eq_false (p := m + 1 = 0) (by omega), decide_eq_false (p := r < 0) (by omega)]; simp)
          have dr : decide ((0 : Int) ≤ r) = true := decide_eq_true hr0
          clear HO HE HS
          go_wp2_with fail
          go_region_held3 (fun w' => w'.cell? ⟨b, off + m * 2, none⟩ = some (.int .i64 px) ∧ w'.cell? ⟨b, off + m * 2 + 1, none⟩ = some (.int .i64 py) ∧ w'.cell? ⟨wr.heap.size, 0, none⟩ = some (.int .i64 x) ∧ w'.cell? ⟨wr.heap.size, 1, none⟩ = some (.int .i64 y) ∧ w'.cell? ⟨w.heap.size, 0, none⟩ = some (.int .i64 L) ∧ w'.cell? ⟨w.heap.size, 1, none⟩ = some (.int .i64 R) ∧ w'.cell? ⟨w.heap.size, 2, none⟩ = some (.slice (some ⟨b, off, none⟩) g.edges.length c)) (first | with_reducible exact ⟨r0, r1, r2, r3, g0, g1, g2⟩ | with_reducible exact ⟨s0, s1, s2, s3, s4, s5, s6⟩ | go_keep) ((go_at_call 24; refine (CO _).out.mono ?_; rintro e w9 ⟨rfl, hb9⟩; have hB9 : Below (wr.heap.size + 1) (wr.alloc (.cells #[.int .i64 x, .int .i64 y] 46)) w9 := Below.trans (by repeat (first | exact Below.refl _ _ | refine Below.drew ?_)) (hb9.mono (by simp; done)); obtain ⟨⟨s0, s1⟩, ⟨s2, s3⟩, h9⟩ := HW0.out w9 hB9; have s4 := (h9.cell (p := ⟨w.heap.size, 0, none⟩) hxl).trans g0; have s5 := (h9.cell (p := ⟨w.heap.size, 1, none⟩) hxl).trans g1; have s6 := (h9.cell (p := ⟨w.heap.size, 2, none⟩) hxl).trans g2; have HB9 := Lib.hid h9; clear hb9 hB9 h9))
          go_wp2_with fail
          go_ret
          exact ⟨ret_int HN.out.symm, HB.out.trans (HB9.out.mono HB.out.size)⟩
        · have HN := Lib.hid (HS.out (by rw [HO.out, decide_eq_true (p := 0 ≤ x) (by omega), decide_eq_true (p := x < L) (by omega), decide_eq_true (p := 0 ≤ y) (by omega), decide_eq_true (p := y < R) (by omega), decide_eq_true (p := r < 0) (by omega)]; simp))
          have dr : decide ((0 : Int) ≤ r) = false := decide_eq_false hr0
          clear HO HE HS
          go_wp2_with fail
          go_region_held3 (fun w' => w'.cell? ⟨b, off + m * 2, none⟩ = some (.int .i64 px) ∧ w'.cell? ⟨b, off + m * 2 + 1, none⟩ = some (.int .i64 py) ∧ w'.cell? ⟨wr.heap.size, 0, none⟩ = some (.int .i64 x) ∧ w'.cell? ⟨wr.heap.size, 1, none⟩ = some (.int .i64 y) ∧ w'.cell? ⟨w.heap.size, 0, none⟩ = some (.int .i64 L) ∧ w'.cell? ⟨w.heap.size, 1, none⟩ = some (.int .i64 R) ∧ w'.cell? ⟨w.heap.size, 2, none⟩ = some (.slice (some ⟨b, off, none⟩) g.edges.length c)) (first | with_reducible exact ⟨r0, r1, r2, r3, g0, g1, g2⟩ | with_reducible exact ⟨s0, s1, s2, s3, s4, s5, s6⟩ | go_keep) ((go_at_call 24; refine (CO _).out.mono ?_; rintro e w9 ⟨rfl, hb9⟩; have hB9 : Below (wr.heap.size + 1) (wr.alloc (.cells #[.int .i64 x, .int .i64 y] 46)) w9 := Below.trans (by repeat (first | exact Below.refl _ _ | refine Below.drew ?_)) (hb9.mono (by simp; done)); obtain ⟨⟨s0, s1⟩, ⟨s2, s3⟩, h9⟩ := HW0.out w9 hB9; have s4 := (h9.cell (p := ⟨w.heap.size, 0, none⟩) hxl).trans g0; have s5 := (h9.cell (p := ⟨w.heap.size, 1, none⟩) hxl).trans g1; have s6 := (h9.cell (p := ⟨w.heap.size, 2, none⟩) hxl).trans g2; have HB9 := Lib.hid h9; clear hb9 hB9 h9))
          have hxf := (HB9.out.block w.heap.size hbl).trans HX.out
          have HBF := Lib.hid (HB.out.trans (HB9.out.mono HB.out.size))
          clear s0 s1 s2 s3 s4 s5 s6 r0 r1 r2 r3 g0 g1 g2 HB9 HB HX
          go_wp2_with fail
          go_roundw
          case rel => exact ⟨m + 1 + 1, by omega, by go_num, HN, HBF, hxf⟩
          case measure => simp [intOf]; omega
    · have hnl : ¬ (k : Int) < (g.edges.length : Int) := by omega
      obtain rfl : k = g.edges.length := by omega
      have HN := Lib.hid (HYes.out (chk_all HSZ.out HT.out))
      go_wp2_with fail
      go_ret
      exact ⟨ret_int HN.out.symm, HB.out⟩
end Go.Proofs.Ytolappaekjdcgaa
