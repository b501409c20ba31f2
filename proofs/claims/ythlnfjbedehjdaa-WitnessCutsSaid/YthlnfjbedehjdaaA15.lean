/- The reference's Valid. -/
import Derived.Test.YthlnfjbedehjdaaA14
import Derived.BigQuiet
namespace Go.Proofs.Ythlnfjbedehjdaa
open Go.RowKit Go.Deep Go.Shelf

set_option maxRecDepth 20000 in
set_option maxHeartbeats 4000000 in
theorem rvalid_any (w : World) (M : Nat → Prop) (v : Value) (q : RaceD) (h : IsRace w M v q) : Calls Try.prog 21 #[v] w fun e w' => e = .returned (.bool (validB q)) ∧ Below w.heap.size w w' := by
  obtain ⟨cA, cc, pA, pc, oA, oc, rfl, hc, hp, ho⟩ := h.parts
  have HC := Lib.hid hc
  have HP := Lib.hid hp
  have HO := Lib.hid ho
  clear hc hp ho h
  obtain ⟨n, hn⟩ : ∃ n, n = q.clubs.length := ⟨_, rfl⟩
  obtain ⟨np, hnp⟩ : ∃ np, np = q.points.length := ⟨_, rfl⟩
  obtain ⟨no, hno⟩ : ∃ no, no = q.opn.length := ⟨_, rfl⟩
  obtain ⟨win, hwin⟩ : ∃ x, x = q.win := ⟨_, rfl⟩
  obtain ⟨draw, hdraw⟩ : ∃ x, x = q.draw := ⟨_, rfl⟩
  obtain ⟨club, hclub⟩ : ∃ x, x = q.club := ⟨_, rfl⟩
  obtain ⟨place, hplace⟩ : ∃ x, x = q.place := ⟨_, rfl⟩
  rw [← hn, ← hnp, ← hno, ← hwin, ← hdraw, ← hclub, ← hplace]
  have HSZ := Lib.hid (show SizeR q ↔ (0 ≤ draw ∧ draw ≤ win ∧ win ≤ 999 ∧ 2 ≤ n ∧ n ≤ 24 ∧ np = n ∧ no ≤ 552 ∧ 0 ≤ club ∧ club < n ∧ 1 ≤ place ∧ place ≤ n) from by
    rw [hn, hnp, hno, hwin, hdraw, hclub, hplace]
    exact ⟨fun ⟨a, b, c, d, e, f, g, h, i, j, k⟩ => ⟨a, b, c, d, e, f, g, h, i, j, k⟩, fun ⟨a, b, c, d, e, f, g, h, i, j, k⟩ => ⟨a, b, c, d, e, f, g, h, i, j, k⟩⟩)
  have HN := Lib.hid hn
  have HNP := Lib.hid hnp
  have HNO := Lib.hid hno
  clear hn hnp hno hwin hdraw hclub hplace
  go_enter Try.func21, Try.ntmps21
  go_upto_region 2 with fail
  
  refine nameC fun W3 hW3 => ?_
  have hb3 : Below w.heap.size w W3 := by rw [hW3.out]; exact (Below.refl _ _).alloc (Nat.le_refl _) _
  have k0 : W3.heap[w.heap.size]? = some (.cells #[.int .i64 win, .int .i64 draw, .slice cA n cc, .slice pA np pc, .slice oA no oc, .int .i64 club, .int .i64 place] 25 (0, 0)) := by rw [hW3.out]; exact heap_alloc_new _ _
  have K0 := Lib.hid k0
  have HB3 := Lib.hid hb3
  clear hW3 hb3 k0
  have r0 := cell_of (j := 0) K0.out rfl
  have r1 := cell_of (j := 1) K0.out rfl
  have r2 := cell_of (j := 2) K0.out rfl
  have r3 := cell_of (j := 3) K0.out rfl
  have r4 := cell_of (j := 4) K0.out rfl
  have r5 := cell_of (j := 5) K0.out rfl
  have r6 := cell_of (j := 6) K0.out rfl
  go_cut [67] (fun c W => c = .bool (!decide (SizeR q)) ∧ W = W3)
  case first =>
    by_cases t0 : draw < 0
    · skip
      have d0_0 : decide (draw < 0) = true := by rw [decide_eq_true_eq]; omega
      have hs : decide (SizeR q) = false := by rw [decide_eq_false_iff_not, HSZ.out]; omega
      clear t0
      go_wp2_with fail
      go_meet
      case rel => exact ⟨by rw [hs]; rfl, rfl⟩
    have d0_0 : decide (draw < 0) = false := by rw [decide_eq_false_iff_not]; omega
    by_cases t1 : win < draw
    · skip
      have d1_0 : decide (win < draw) = true := by rw [decide_eq_true_eq]; omega
      have hs : decide (SizeR q) = false := by rw [decide_eq_false_iff_not, HSZ.out]; omega
      clear t0 t1
      go_wp2_with fail
      go_meet
      case rel => exact ⟨by rw [hs]; rfl, rfl⟩
    have d1_0 : decide (win < draw) = false := by rw [decide_eq_false_iff_not]; omega
    by_cases t2 : 999 < win
    · skip
      have d2_0 : decide (999 < win) = true := by rw [decide_eq_true_eq]; omega
      have hs : decide (SizeR q) = false := by rw [decide_eq_false_iff_not, HSZ.out]; omega
      clear t0 t1 t2
      go_wp2_with fail
      go_meet
      case rel => exact ⟨by rw [hs]; rfl, rfl⟩
    have d2_0 : decide (999 < win) = false := by rw [decide_eq_false_iff_not]; omega
    by_cases t3 : n < 2
    · skip
      have d3_0 : decide ((n : Int) < 2) = true := by rw [decide_eq_true_eq]; omega
      have d3_1 : decide (n < 2) = true := by rw [decide_eq_true_eq]; omega
      have hs : decide (SizeR q) = false := by rw [decide_eq_false_iff_not, HSZ.out]; omega
      clear t0 t1 t2 t3
      go_wp2_with fail
      go_meet
      case rel => exact ⟨by rw [hs]; rfl, rfl⟩
    have d3_0 : decide ((n : Int) < 2) = false := by rw [decide_eq_false_iff_not]; omega
    have d3_1 : decide (n < 2) = false := by rw [decide_eq_false_iff_not]; omega
    by_cases t4 : 24 < n
    · skip
      have d4_0 : decide (24 < (n : Int)) = true := by rw [decide_eq_true_eq]; omega
      have d4_1 : decide (24 < n) = true := by rw [decide_eq_true_eq]; omega
      have hs : decide (SizeR q) = false := by rw [decide_eq_false_iff_not, HSZ.out]; omega
      clear t0 t1 t2 t3 t4
      go_wp2_with fail
      go_meet
      case rel => exact ⟨by rw [hs]; rfl, rfl⟩
    have d4_0 : decide (24 < (n : Int)) = false := by rw [decide_eq_false_iff_not]; omega
    have d4_1 : decide (24 < n) = false := by rw [decide_eq_false_iff_not]; omega
    by_cases t5 : np ≠ n
    · skip
      have d5_0 : ((np : Int) != (n : Int)) = true := by rw [bne_iff_ne]; omega
      have hs : decide (SizeR q) = false := by rw [decide_eq_false_iff_not, HSZ.out]; omega
      clear t0 t1 t2 t3 t4 t5
      go_wp2_with fail
      go_meet
      case rel => exact ⟨by rw [hs]; rfl, rfl⟩
    have d5_0 : ((np : Int) != (n : Int)) = false := by rw [bne_eq_false_iff_eq]; omega
    by_cases t6 : 552 < no
    · skip
      have d6_0 : decide (552 < (no : Int)) = true := by rw [decide_eq_true_eq]; omega
      have d6_1 : decide (552 < no) = true := by rw [decide_eq_true_eq]; omega
      have hs : decide (SizeR q) = false := by rw [decide_eq_false_iff_not, HSZ.out]; omega
      clear t0 t1 t2 t3 t4 t5 t6
      go_wp2_with fail
      go_meet
      case rel => exact ⟨by rw [hs]; rfl, rfl⟩
    have d6_0 : decide (552 < (no : Int)) = false := by rw [decide_eq_false_iff_not]; omega
    have d6_1 : decide (552 < no) = false := by rw [decide_eq_false_iff_not]; omega
    by_cases t7 : club < 0
    · skip
      have d7_0 : decide (club < 0) = true := by rw [decide_eq_true_eq]; omega
      have hs : decide (SizeR q) = false := by rw [decide_eq_false_iff_not, HSZ.out]; omega
      clear t0 t1 t2 t3 t4 t5 t6 t7
      go_wp2_with fail
      go_meet
      case rel => exact ⟨by rw [hs]; rfl, rfl⟩
    have d7_0 : decide (club < 0) = false := by rw [decide_eq_false_iff_not]; omega
    by_cases t8 : (n : Int) ≤ club
    · skip
      have d8_0 : decide ((n : Int) ≤ club) = true := by rw [decide_eq_true_eq]; omega
      have hs : decide (SizeR q) = false := by rw [decide_eq_false_iff_not, HSZ.out]; omega
      clear t0 t1 t2 t3 t4 t5 t6 t7 t8
      go_wp2_with fail
      go_meet
      case rel => exact ⟨by rw [hs]; rfl, rfl⟩
    have d8_0 : decide ((n : Int) ≤ club) = false := by rw [decide_eq_false_iff_not]; omega
    by_cases t9 : place < 1
    · skip
      have d9_0 : decide (place < 1) = true := by rw [decide_eq_true_eq]; omega
      have hs : decide (SizeR q) = false := by rw [decide_eq_false_iff_not, HSZ.out]; omega
      clear t0 t1 t2 t3 t4 t5 t6 t7 t8 t9
      go_wp2_with fail
      go_meet
      case rel => exact ⟨by rw [hs]; rfl, rfl⟩
    have d9_0 : decide (place < 1) = false := by rw [decide_eq_false_iff_not]; omega
    by_cases t10 : (n : Int) < place
    · skip
      have d10_0 : decide ((n : Int) < place) = true := by rw [decide_eq_true_eq]; omega
      have hs : decide (SizeR q) = false := by rw [decide_eq_false_iff_not, HSZ.out]; omega
      clear t0 t1 t2 t3 t4 t5 t6 t7 t8 t9 t10
      go_wp2_with fail
      go_meet
      case rel => exact ⟨by rw [hs]; rfl, rfl⟩
    have d10_0 : decide ((n : Int) < place) = false := by rw [decide_eq_false_iff_not]; omega
    have hs : decide (SizeR q) = true := by rw [decide_eq_true_eq, HSZ.out]; omega
    clear t0 t1 t2 t3 t4 t5 t6 t7 t8 t9 t10
    go_wp2_with fail
    go_meet
    case rel => exact ⟨by rw [hs]; rfl, rfl⟩
  case rest =>
    obtain ⟨rfl, hwc⟩ := hcut
    subst hwc
    by_cases hsz : SizeR q
    case neg =>
      have hs : decide (SizeR q) = false := decide_eq_false hsz
      have HV := Lib.hid (valid_size hsz)
      rw [hs]
      clear hs hsz r0 r1 r2 r3 r4 r5 r6
      go_wp2_with fail
      go_ret
      exact ⟨ret_bool HV.out.symm, HB3.out⟩
    have hs : decide (SizeR q) = true := decide_eq_true hsz
    rw [hs]
    have HS := Lib.hid hsz
    have hn24 : (2 : Int) ≤ (n : Int) ∧ (n : Int) ≤ 24 := by rw [HN.out]; have := hsz.n2; have := hsz.n24; omega
    have hpn : np = n := by rw [HNP.out, HN.out]; exact hsz.pts
    have HPN := Lib.hid hpn
    have hno5 : no ≤ 552 := by rw [HNO.out]; exact hsz.opn
    obtain ⟨hn2, hn3⟩ := hn24
    clear hs hsz hpn r0 r1 r3 r4 r5 r6
    go_wp2_with fail
    clear r2
    go_loopw [4] (fun i wr => ∃ k : Nat, k ≤ n ∧ i = .int .i64 (k : Int) ∧ Hid (clubsTo q k) ∧ Hid (Below wc.heap.size wc wr)) (fun i _ => n - (intOf i).toNat)
    case atStart => exact ⟨0, Nat.zero_le _, rfl, Lib.hid clubsTo_zero, Lib.hid (Below.refl _ _)⟩
    case round =>
      obtain ⟨k, hk, rfl, HT, HB⟩ := hrel
      have HBW := Lib.hid (HB3.out.trans (HB.out.mono HB3.out.size))
      have k0 := (HB.out.block _ (lt_heap K0.out)).trans K0.out
      have r2 := cell_of (j := 2) k0 rfl
      have r3 := cell_of (j := 3) k0 rfl
      have r4 := cell_of (j := 4) k0 rfl
      clear k0
      by_cases hlt : k < n
      · obtain ⟨cb, co, rfl, hcb, hck⟩ := HC.out.at_ HBW.out (show k < q.clubs.length by rw [← HN.out]; exact hlt)
        obtain ⟨pb, po, rfl, hpb, hpk⟩ := HP.out.at_ HBW.out (show k < q.points.length by rw [← HNP.out, HPN.out]; exact hlt)
        have hlt' : (k : Int) < (n : Int) := by omega
        have hlt2 : (k : Int) < (np : Int) := by rw [HPN.out]; omega
        have hk0 : (0 : Int) ≤ (k : Int) := by omega
        go_upto_region 7 with fail
        have HCR := Lib.hid (show ClubR q k ↔ (0 ≤ nthI q.clubs k ∧ nthI q.clubs k < 192 ∧ (0 < k → nthI q.clubs (k - 1) < nthI q.clubs k) ∧ -99999 ≤ nthI q.points k ∧ nthI q.points k ≤ 99999) from ⟨fun ⟨a, b, c, d, e⟩ => ⟨a, b, c, d, e⟩, fun ⟨a, b, c, d, e⟩ => ⟨a, b, c, d, e⟩⟩)
        have hy : 0 < k → wr.cell? ⟨cb, co + (k - 1), none⟩ = some (.int .i64 (nthI q.clubs (k - 1))) := fun h0 => by
          obtain ⟨cb', co', e, -, hck'⟩ := HC.out.at_ HBW.out (show k - 1 < q.clubs.length by rw [← HN.out]; omega)
          simp only [Option.some.injEq, Addr.mk.injEq, and_true] at e
          rw [e.1, e.2]; exact hck'
        have HY := Lib.hid hy
        obtain ⟨x, hx⟩ : ∃ x, x = nthI q.clubs k := ⟨_, rfl⟩
        obtain ⟨y, hy'⟩ : ∃ y, y = nthI q.clubs (k - 1) := ⟨_, rfl⟩
        obtain ⟨z, hz⟩ : ∃ z, z = nthI q.points k := ⟨_, rfl⟩
        rw [← hx] at hck HCR
        rw [← hy'] at HCR HY
        rw [← hz] at hpk HCR
        clear hy hx hy' hz
        go_cut [120] (fun c W => c = .bool (!decide (ClubR q k)) ∧ Hid (Below wr.heap.size wr W))
        case first =>
          by_cases hk1 : k = 0
          · skip
            have dk : decide ((0 : Int) < (k : Int)) = false := by rw [decide_eq_false_iff_not]; omega
            have dk2 : decide (0 < k) = false := by rw [decide_eq_false_iff_not]; omega
            by_cases t0 : x < 0
            · skip
              have hs : decide (ClubR q (k)) = false := by rw [decide_eq_false_iff_not, HCR.out]; omega
              have dt0 : decide (x < 0) = true := by rw [decide_eq_true_eq]; omega
              clear hk1 t0
              go_quiet (fail)
              go_wp2_with fail
              go_meet
              case rel => exact ⟨by rw [hs]; rfl, Lib.hid (bDrewN (Below.refl _ _) _)⟩
            have dt0 : decide (x < 0) = false := by rw [decide_eq_false_iff_not]; omega
            by_cases t1 : 192 ≤ x
            · skip
              have hs : decide (ClubR q (k)) = false := by rw [decide_eq_false_iff_not, HCR.out]; omega
              have dt1 : decide (192 ≤ x) = true := by rw [decide_eq_true_eq]; omega
              clear hk1 t0 t1
              go_quiet (fail)
              go_wp2_with fail
              go_meet
              case rel => exact ⟨by rw [hs]; rfl, Lib.hid (bDrewN (Below.refl _ _) _)⟩
            have dt1 : decide (192 ≤ x) = false := by rw [decide_eq_false_iff_not]; omega
            by_cases t4 : z < -99999
            · skip
              have hs : decide (ClubR q (k)) = false := by rw [decide_eq_false_iff_not, HCR.out]; omega
              have dt4 : decide (z < -99999) = true := by rw [decide_eq_true_eq]; omega
              clear hk1 t0 t1 t4
              go_quiet (fail)
              go_wp2_with fail
              go_meet
              case rel => exact ⟨by rw [hs]; rfl, Lib.hid (bDrewN (Below.refl _ _) _)⟩
            have dt4 : decide (z < -99999) = false := by rw [decide_eq_false_iff_not]; omega
            by_cases t5 : 99999 < z
            · skip
              have hs : decide (ClubR q (k)) = false := by rw [decide_eq_false_iff_not, HCR.out]; omega
              have dt5 : decide (99999 < z) = true := by rw [decide_eq_true_eq]; omega
              clear hk1 t0 t1 t4 t5
              go_quiet (fail)
              go_wp2_with fail
              go_meet
              case rel => exact ⟨by rw [hs]; rfl, Lib.hid (bDrewN (Below.refl _ _) _)⟩
            have dt5 : decide (99999 < z) = false := by rw [decide_eq_false_iff_not]; omega
            have hs : decide (ClubR q (k)) = true := by rw [decide_eq_true_eq, HCR.out]; omega
            clear hk1 t0 t1 t4 t5
            go_quiet (fail)
            go_wp2_with fail
            go_meet
            case rel => exact ⟨by rw [hs]; rfl, Lib.hid (bDrewN (Below.refl _ _) _)⟩
          obtain ⟨j, rfl⟩ : ∃ j, k = j + 1 := ⟨k - 1, by omega⟩
          have hyc : wr.cell? ⟨cb, co + j, none⟩ = some (.int .i64 y) := HY.out (by omega)
          have dk : decide ((0 : Int) < (j : Int) + 1) = true := by rw [decide_eq_true_eq]; omega
          have hj0 : (0 : Int) ≤ (j : Int) := by omega
          have hj1 : (j : Int) < (n : Int) := by omega
          have hj2 : (j : Int) < 24 := by omega
          by_cases t0 : x < 0
          · skip
            have hs : decide (ClubR q (j + 1)) = false := by rw [decide_eq_false_iff_not, HCR.out]; omega
            have dt0 : decide (x < 0) = true := by rw [decide_eq_true_eq]; omega
            clear hk1 t0
            go_quiet (fail)
            go_wp2_with fail
            go_meet
            case rel => exact ⟨by rw [hs]; rfl, Lib.hid (bDrewN (Below.refl _ _) _)⟩
          have dt0 : decide (x < 0) = false := by rw [decide_eq_false_iff_not]; omega
          by_cases t1 : 192 ≤ x
          · skip
            have hs : decide (ClubR q (j + 1)) = false := by rw [decide_eq_false_iff_not, HCR.out]; omega
            have dt1 : decide (192 ≤ x) = true := by rw [decide_eq_true_eq]; omega
            clear hk1 t0 t1
            go_quiet (fail)
            go_wp2_with fail
            go_meet
            case rel => exact ⟨by rw [hs]; rfl, Lib.hid (bDrewN (Below.refl _ _) _)⟩
          have dt1 : decide (192 ≤ x) = false := by rw [decide_eq_false_iff_not]; omega
          by_cases t3 : x ≤ y
          · skip
            have hs : decide (ClubR q (j + 1)) = false := by rw [decide_eq_false_iff_not, HCR.out]; omega
            have dt3 : decide (x ≤ y) = true := by rw [decide_eq_true_eq]; omega
            clear hk1 t0 t1 t3
            go_quiet (fail)
            go_wp2_with fail
            go_meet
            case rel => exact ⟨by rw [hs]; rfl, Lib.hid (bDrewN (Below.refl _ _) _)⟩
          have dt3 : decide (x ≤ y) = false := by rw [decide_eq_false_iff_not]; omega
          by_cases t4 : z < -99999
          · skip
            have hs : decide (ClubR q (j + 1)) = false := by rw [decide_eq_false_iff_not, HCR.out]; omega
            have dt4 : decide (z < -99999) = true := by rw [decide_eq_true_eq]; omega
            clear hk1 t0 t1 t3 t4
            go_quiet (fail)
            go_wp2_with fail
            go_meet
            case rel => exact ⟨by rw [hs]; rfl, Lib.hid (bDrewN (Below.refl _ _) _)⟩
          have dt4 : decide (z < -99999) = false := by rw [decide_eq_false_iff_not]; omega
          by_cases t5 : 99999 < z
          · skip
            have hs : decide (ClubR q (j + 1)) = false := by rw [decide_eq_false_iff_not, HCR.out]; omega
            have dt5 : decide (99999 < z) = true := by rw [decide_eq_true_eq]; omega
            clear hk1 t0 t1 t3 t4 t5
            go_quiet (fail)
            go_wp2_with fail
            go_meet
            case rel => exact ⟨by rw [hs]; rfl, Lib.hid (bDrewN (Below.refl _ _) _)⟩
          have dt5 : decide (99999 < z) = false := by rw [decide_eq_false_iff_not]; omega
          have hs : decide (ClubR q (j + 1)) = true := by rw [decide_eq_true_eq, HCR.out]; omega
          clear hk1 t0 t1 t3 t4 t5
          go_quiet (fail)
          go_wp2_with fail
          go_meet
          case rel => exact ⟨by rw [hs]; rfl, Lib.hid (bDrewN (Below.refl _ _) _)⟩
        case rest =>
          obtain ⟨rfl, HBq⟩ := hcut
          have HB5 := Lib.hid (HB.out.trans (HBq.out.mono HB.out.size))
          clear HCR HY hck hpk r2 r3 r4
          by_cases hcl : ClubR q k
          case neg =>
            have hs : decide (ClubR q k) = false := decide_eq_false hcl
            have HV := Lib.hid (valid_club (show k < q.clubs.length by rw [← HN.out]; exact hlt) hcl)
            rw [hs]
            clear hs hcl
            go_wp2_with fail
            go_ret
            exact ⟨ret_bool HV.out.symm, HB3.out.trans (HB5.out.mono HB3.out.size)⟩
          have hs : decide (ClubR q k) = true := decide_eq_true hcl
          have HT2 := Lib.hid (clubsTo_succ HT.out hcl)
          rw [hs]
          clear hs hcl
          go_wp2_with fail
          go_roundw
          case rel => exact ⟨k + 1, by omega, by go_num, HT2, HB5⟩
          case measure => simp [intOf]; omega
      · have hnl : ¬ (k : Int) < (n : Int) := by omega
        obtain rfl : k = n := by omega
        have HVA := Lib.hid (valid_of HS.out (by rw [← HN.out]; exact HT.out))
        rename World => w5
        have K5 := Lib.hid ((HB.out.block _ (lt_heap K0.out)).trans K0.out)
        clear HT HB HB3 K0 HC HP
        go_wp2_with fail
        clear r2 r3 r4
        go_loopw [5] (fun i wr => ∃ t : Nat, t ≤ no ∧ i = .int .i64 (t : Int) ∧ Hid (upTo (edgeB q.clubs.length) q.opn t) ∧ Hid (Below w5.heap.size w5 wr)) (fun i _ => no - (intOf i).toNat)
        case atStart => exact ⟨0, Nat.zero_le _, rfl, Lib.hid upTo_zero, Lib.hid (Below.refl _ _)⟩
        case round =>
          obtain ⟨t, ht, rfl, HT, HB⟩ := hrel
          have k0 := (HB.out.block _ (lt_heap K5.out)).trans K5.out
          have HB2 := Lib.hid (HBW.out.trans (HB.out.mono HBW.out.size))
          have r4 := cell_of (j := 4) k0 rfl
          clear k0
          by_cases htl : t < no
          · obtain ⟨eb, eo, rfl, heb, hx0, hy0⟩ := HO.out.at_ HB2.out (show t < q.opn.length by rw [← HNO.out]; exact htl)
            have hlt2 : t < q.opn.length := by rw [← HNO.out]; exact htl
            have HLT := Lib.hid hlt2
            obtain ⟨⟨x, y⟩, hxy⟩ : ∃ e, e = q.opn[t]'hlt2 := ⟨_, rfl⟩
            rw [← hxy] at hx0 hy0
            dsimp only at hx0 hy0
            have HEB := Lib.hid (show edgeB q.clubs.length (q.opn[t]'HLT.out) = decide ((0 ≤ x ∧ x < (k : Int)) ∧ (0 ≤ y ∧ y < (k : Int)) ∧ x ≠ y) by rw [← hxy, ← HN.out]; rfl)
            clear hxy
            have ht0 : (0 : Int) ≤ (t : Int) := by omega
            have ht1 : (t : Int) < (no : Int) := by omega
            go_upto_region 13 with fail
            refine nameC fun W6 hW6 => ?_
            have hb6 : Below wr.heap.size wr W6 := by rw [hW6.out]; exact (Below.refl _ _).alloc (Nat.le_refl _) _
            have k8 : W6.heap[wr.heap.size]? = some (.cells #[.int .i64 x, .int .i64 y] 53 (0, 0)) := by rw [hW6.out]; exact heap_alloc_new _ _
            obtain ⟨b8, hb8⟩ : ∃ b8, b8 = wr.heap.size := ⟨_, rfl⟩
            rw [← hb8] at k8 ⊢
            have g0 := cell_of (j := 0) k8 rfl
            have g1 := cell_of (j := 1) k8 rfl
            have HB7 := Lib.hid (HB.out.trans (hb6.mono HB.out.size))
            have HB8 := Lib.hid (HB2.out.trans (hb6.mono HB2.out.size))
            clear hW6 hb6 k8 hb8 hx0 hy0 r4
            go_cut [159] (fun c W => c = .bool (!edgeB q.clubs.length (q.opn[t]'HLT.out)) ∧ W = W6)
            case first =>
              by_cases t0 : x < 0
              · skip
                have hs : edgeB q.clubs.length (q.opn[t]'HLT.out) = false := by rw [HEB.out, decide_eq_false_iff_not]; omega
                have dt0 : decide (x < 0) = true := by rw [decide_eq_true_eq]; omega
                clear t0
                go_wp2_with fail
                go_meet
                case rel => exact ⟨by rw [hs]; rfl, rfl⟩
              have dt0 : decide (x < 0) = false := by rw [decide_eq_false_iff_not]; omega
              by_cases t1 : (k : Int) ≤ x
              · skip
                have hs : edgeB q.clubs.length (q.opn[t]'HLT.out) = false := by rw [HEB.out, decide_eq_false_iff_not]; omega
                have dt1 : decide ((k : Int) ≤ x) = true := by rw [decide_eq_true_eq]; omega
                clear t0 t1
                go_wp2_with fail
                go_meet
                case rel => exact ⟨by rw [hs]; rfl, rfl⟩
              have dt1 : decide ((k : Int) ≤ x) = false := by rw [decide_eq_false_iff_not]; omega
              by_cases t2 : y < 0
              · skip
                have hs : edgeB q.clubs.length (q.opn[t]'HLT.out) = false := by rw [HEB.out, decide_eq_false_iff_not]; omega
                have dt2 : decide (y < 0) = true := by rw [decide_eq_true_eq]; omega
                clear t0 t1 t2
                go_wp2_with fail
                go_meet
                case rel => exact ⟨by rw [hs]; rfl, rfl⟩
              have dt2 : decide (y < 0) = false := by rw [decide_eq_false_iff_not]; omega
              by_cases t3 : (k : Int) ≤ y
              · skip
                have hs : edgeB q.clubs.length (q.opn[t]'HLT.out) = false := by rw [HEB.out, decide_eq_false_iff_not]; omega
                have dt3 : decide ((k : Int) ≤ y) = true := by rw [decide_eq_true_eq]; omega
                clear t0 t1 t2 t3
                go_wp2_with fail
                go_meet
                case rel => exact ⟨by rw [hs]; rfl, rfl⟩
              have dt3 : decide ((k : Int) ≤ y) = false := by rw [decide_eq_false_iff_not]; omega
              by_cases t4 : x = y
              · skip
                have hs : edgeB q.clubs.length (q.opn[t]'HLT.out) = false := by rw [HEB.out, decide_eq_false_iff_not]; omega
                have dt4 : (x == y) = true := by rw [beq_iff_eq]; exact t4
                clear t0 t1 t2 t3 t4
                go_wp2_with fail
                go_meet
                case rel => exact ⟨by rw [hs]; rfl, rfl⟩
              have dt4 : (x == y) = false := by rw [beq_eq_false_iff_ne]; exact t4
              have hs : edgeB q.clubs.length (q.opn[t]'HLT.out) = true := by rw [HEB.out, decide_eq_true_eq]; omega
              clear t0 t1 t2 t3 t4
              go_wp2_with fail
              go_meet
              case rel => exact ⟨by rw [hs]; rfl, rfl⟩
            case rest =>
              obtain ⟨rfl, hwc⟩ := hcut
              subst hwc
              clear HEB
              cases hed : edgeB q.clubs.length (q.opn[t]'HLT.out)
              · have HV := Lib.hid (show validB q = false by rw [HVA.out]; exact not_all HLT.out hed)
                clear hed
                go_wp2_with fail
                go_ret
                exact ⟨ret_bool HV.out.symm, HB8.out⟩
              · have HT2 := Lib.hid (upTo_succ HT.out HLT.out hed)
                clear hed
                go_wp2_with fail
                go_roundw
                case rel => exact ⟨t + 1, by omega, by go_num, HT2, HB7⟩
                case measure => simp [intOf]; omega
          · have hnl2 : ¬ (t : Int) < (no : Int) := by omega
            obtain rfl : t = no := by omega
            have HV := Lib.hid (show validB q = true by rw [HVA.out]; exact upTo_all (by rw [← HNO.out]; exact HT.out))
            go_wp2_with fail
            go_ret
            exact ⟨ret_bool HV.out.symm, HB2.out⟩
end Go.Proofs.Ythlnfjbedehjdaa
