/- finals of the law: the points behind outcomes, where missing ones are draws. -/
import Derived.Test.YthlnfjbedehjdaaA16
import Derived.BigQuiet
import Derived.StillTailTactics
import Derived.Deep.DeepCutAuto
namespace Go.Proofs.Ythlnfjbedehjdaa
open Go.RowKit Go.Deep Go.Shelf

/-- a slice of bytes -/
def IsB8 (w : World) (M : Nat → Prop) (v : Value) (bs : List Nat) : Prop := IsSl w M 1 v bs.length (fun i _ => .int .u8 (bs.getD i 0 : Nat))
theorem IsB8.at1 {w wr : World} {M : Nat → Prop} {A : Option Addr} {n c k : Nat} {bs : List Nat} (h : IsB8 w M (.slice A n c) bs) (hb : Below w.heap.size w wr) (hk : k < bs.length) :
    ∃ b off, A = some ⟨b, off, none⟩ ∧ b < w.heap.size ∧ wr.cell? ⟨b, off + k, none⟩ = some (.int .u8 (bs.getD k 0 : Nat)) := by
  obtain ⟨A', c', e, _, _, h3⟩ := h
  cases e
  obtain ⟨b, off, e, _, hl, hc⟩ := h3.at1 hb hk
  exact ⟨b, off, e, hl, hc⟩
/-- outcomes out of bytes -/
def oF (bs : List Nat) (k : Nat) : Int := if k < bs.length then ((bs.getD k 0 % 3 : Nat) : Int) + 1 else 2
theorem oF_in (bs : List Nat) (k : Nat) : 1 ≤ oF bs k ∧ oF bs k ≤ 3 := by
  unfold oF; split <;> omega
set_option maxRecDepth 20000 in
set_option maxHeartbeats 4000000 in
theorem finals_any (w : World) (M M' : Nat → Prop) (v u : Value) (q : RaceD) (bs : List Nat) (h : IsRace w M v q) (h' : IsB8 w M' u bs) (hb8 : ∀ x ∈ bs, x < 256) (hv : ValidR q) : Calls Try.prog 23 #[v, u] w (FinW w (finTo q (oF bs) q.opn.length)) := by
  obtain ⟨cA, cc, pA, pc, oA, oc, rfl, hc, hp, ho⟩ := h.parts
  obtain ⟨uA, uc, rfl, hu1, hu2, hu3⟩ := id h'
  have HB8 := Lib.hid hb8
  have HP := Lib.hid hp
  have HO := Lib.hid ho
  have HU := Lib.hid h'
  have HV := Lib.hid hv
  have hn2 := hv.size.n2
  have hn24 := hv.size.n24
  have hpts := hv.size.pts
  have hop := hv.size.opn
  have hnb : bs.length ≤ 9223372036854775807 := by omega
  clear hc hp ho h h' hu1 hu2 hu3 hv hb8
  obtain ⟨n, hn⟩ : ∃ n, n = q.clubs.length := ⟨_, rfl⟩
  obtain ⟨no, hno⟩ : ∃ no, no = q.opn.length := ⟨_, rfl⟩
  obtain ⟨np, hnp⟩ : ∃ np, np = q.points.length := ⟨_, rfl⟩
  rw [← hn] at hn2 hn24 hpts
  rw [← hno] at hop
  rw [← hnp] at hpts
  have HN := Lib.hid hn
  have HNO := Lib.hid hno
  have HNP := Lib.hid hnp
  have HPT := Lib.hid hpts
  obtain ⟨nb, hnbb⟩ : ∃ nb, nb = bs.length := ⟨_, rfl⟩
  have HNB := Lib.hid hnbb
  rw [← hnbb] at hnb
  rw [← hn, ← hnp, ← hnbb]
  obtain ⟨rs, hrs⟩ : ∃ rs, rs = finTo q (oF bs) q.opn.length := ⟨_, rfl⟩
  have HRS := Lib.hid hrs
  rw [← hrs]
  rw [← hno]
  clear hn hno hnp hpts hnbb hrs
  go_enter Try.func23, Try.ntmps23
  go_upto_region 1 with fail
  refine nameC fun W1 hW1 => ?_
  have hb1 : Below w.heap.size w W1 := by rw [hW1.out]; exact (Below.refl _ _).alloc (Nat.le_refl _) _
  have k0 : W1.heap[w.heap.size]? = some (.cells #[.int .i64 q.win, .int .i64 q.draw, .slice cA n cc, .slice pA np pc, .slice oA no oc, .int .i64 q.club, .int .i64 q.place] 25 (0, 0)) := by rw [hW1.out]; exact heap_alloc_new _ _
  have hsz1 : W1.heap.size = w.heap.size + 1 := by rw [hW1.out]; simp
  have K0 := Lib.hid k0
  have HB1 := Lib.hid hb1
  have HZ1 := Lib.hid hsz1
  have r3 := cell_of (j := 3) k0 rfl
  have hq0 : w.heap.size < W1.heap.size := lt_heap k0
  clear hW1 hb1 k0 hsz1
  have HPL := Lib.hid (show IsInts W1 M (.slice pA np pc) q.points by rw [HNP.out]; exact IsSl.below HP.out HB1.out)
  go_wp2_with (at_builtin; refine wpList_ints rfl (.tmp 9) (.tmp 11) rfl (w.heap.size + 1) [] q.points (M := M) rfl (own_empty (heap_alloc_new _ _) (by rw [HZ1.out]; exact Nat.le_refl _)) rfl (IsSl.below HPL.out ((Below.refl _ _).alloc (Nat.le_refl _) _)) (by have := HPT.out; have := HNP.out; simp; omega) (by have := HZ1.out; simp; omega) ?_; intro A2 cd w2 H2; clear r3; (repeat (first | simp only [Act.put] | simp only [List.setIfInBounds_toArray] | simp only [List.set_cons_zero] | simp only [List.set_cons_succ])))
  have hl0 : (([] : List Int) ++ q.points).length = n := by rw [List.nil_append, ← HNP.out, HPT.out]
  have hown := H2.out.1
  rw [hl0, List.nil_append] at hown
  rw [hl0]
  obtain ⟨g, cap, e2, hg1, hg2, hg3, hg4⟩ := own_posA hown (by omega)
  have e3 := Value.slice.inj e2
  obtain ⟨rfl, -, rfl⟩ := e3
  have hbl : Below (w.heap.size + 1) W1 w2 := (((Below.refl _ _).alloc (by rw [HZ1.out]; exact Nat.le_refl _) _).trans H2.out.2.1)
  have HS2 := Lib.hid (show AbT 25 w g n cd #[.int .i64 q.win, .int .i64 q.draw, .slice cA n cc, .slice pA np pc, .slice oA no oc, .int .i64 q.club, .int .i64 q.place] q.points w2 from ⟨(hbl.block _ (by omega)).trans K0.out, hown, HB1.out.trans (hbl.mono (by omega)), hg1, hg4, by rw [← HNP.out, HPT.out]⟩)
  rw [HPT.out] at HS2
  clear e2 hown H2 K0 HB1 HZ1 HPL hg4 hbl
  go_loopw [6] (fun i wr => ∃ k : Nat, k ≤ no ∧ i = .int .i64 (k : Int) ∧ Hid (AbT 25 w g n cd #[.int .i64 q.win, .int .i64 q.draw, .slice cA n cc, .slice pA n pc, .slice oA no oc, .int .i64 q.club, .int .i64 q.place] (finTo q (oF bs) k) wr)) (fun i _ => no - (intOf i).toNat)
  case atStart => exact ⟨0, Nat.zero_le _, rfl, HS2⟩
  case round =>
    clear HS2
    obtain ⟨k, hk, rfl, HS⟩ := hrel
    by_cases hlt : k < no
    · have r4 := cell_of (j := 4) HS.out.box rfl
      obtain ⟨eb, eo, rfl, heb, e0, e1⟩ := HO.out.at_ HS.out.below (show k < q.opn.length by rw [← HNO.out]; exact hlt)
      have ho13 := oF_in bs k
      have hed := HV.out.edge _ (List.getElem_mem (show k < q.opn.length by rw [← HNO.out]; exact hlt))
      have hfs : finTo q (oF bs) (k + 1) = playR q (finTo q (oF bs) k) (nthE q.opn k) (oF bs k) := rfl
      have hne : nthE q.opn k = q.opn[k]'(by rw [← HNO.out]; exact hlt) := by unfold nthE; rw [List.getD_eq_getElem?_getD, List.getElem?_eq_getElem, Option.getD_some]
      rw [hne] at hfs
      obtain ⟨⟨x, y⟩, hxy⟩ : ∃ e, e = q.opn[k]'(by rw [← HNO.out]; exact hlt) := ⟨_, rfl⟩
      rw [← hxy] at hed hfs e0 e1
      obtain ⟨⟨hx0, hxn⟩, ⟨hy0, hyn⟩, hxy2⟩ := hed
      dsimp only at hx0 hxn hy0 hyn hxy2 e0 e1
      obtain ⟨i, rfl⟩ : ∃ i : Nat, x = (i : Int) := ⟨x.toNat, by omega⟩
      obtain ⟨j, rfl⟩ : ∃ j : Nat, y = (j : Int) := ⟨y.toNat, by omega⟩
      rw [← HN.out] at hxn hyn
      obtain ⟨o, hoo⟩ : ∃ o, o = oF bs k := ⟨_, rfl⟩
      rw [← hoo] at hfs ho13
      have HOO := Lib.hid hoo
      obtain ⟨p, hpp⟩ : ∃ p, p = finTo q (oF bs) k := ⟨_, rfl⟩
      have hin := finTo_in HV.out (oF bs) k
      rw [← hpp] at HS hfs hin
      have HFS := Lib.hid hfs
      have hk0 : (0 : Int) ≤ (k : Int) := by omega
      have hk1 : (k : Int) < (no : Int) := by omega
      obtain ⟨so, hso⟩ : ∃ so : Int, o = so + 1 := ⟨o - 1, by omega⟩
      have HSO := Lib.hid hso
      clear hfs hne hxy hoo hpp hx0 hy0 hlt
      go_upto_region 6 with fail
      refine nameC fun W5 hW5 => ?_
      have hb5 : Below wr.heap.size wr W5 := by rw [hW5.out]; exact (Below.refl _ _).alloc (Nat.le_refl _) _
      have k8 : W5.heap[wr.heap.size]? = some (.cells #[.int .i64 (i : Int), .int .i64 (j : Int)] 53 (0, 0)) := by rw [hW5.out]; exact heap_alloc_new _ _
      obtain ⟨b8, hb8⟩ : ∃ b8, b8 = wr.heap.size := ⟨_, rfl⟩
      have hg8 : g < b8 := by rw [hb8]; exact HS.out.hi
      rw [← hb8] at k8 ⊢
      have HS5 := Lib.hid (HS.out.next hb5)
      have K8 := Lib.hid k8
      have HB55 := Lib.hid HS5.out.below
      clear hW5 hb5 k8 hb8 HS e0 e1 r4
      have hi0 : (0 : Int) ≤ (i : Int) := by omega
      have hj0 : (0 : Int) ≤ (j : Int) := by omega
      have hpi := hin i
      have hpj := hin j
      have hw1 := HV.out.size.d0
      have hw2 := HV.out.size.dw
      have hw3 := HV.out.size.w9
      have HIN := Lib.hid hin
      clear hin
      obtain ⟨ho1', ho3'⟩ := ho13
      go_upto_if 28 with fail
      go_cut [8] (fun s8 W => s8 = .int .i64 so ∧ Hid (Below W5.heap.size W5 W))
      case first =>
        by_cases hkb : k < nb
        · have hkb1 : (k : Int) < (nb : Int) := by omega
          obtain ⟨ub, uo, rfl, hub, hok⟩ := HU.out.at1 HB55.out (show k < bs.length by rw [← HNB.out]; exact hkb)
          have hb256 := HB8.out _ (List.getElem_mem (show k < bs.length by rw [← HNB.out]; exact hkb))
          have hsoE := HOO.out
          unfold oF at hsoE
          rw [if_pos (show k < bs.length by rw [← HNB.out]; exact hkb)] at hsoE
          obtain ⟨b, hbE⟩ : ∃ b, b = bs.getD k 0 := ⟨_, rfl⟩
          have hbb : b < 256 := by
            rw [hbE, List.getD_eq_getElem?_getD, List.getElem?_eq_getElem (show k < bs.length by rw [← HNB.out]; exact hkb)]; exact hb256
          rw [← hbE] at hok hsoE
          have hr1 : ((b : Int)).tmod 3 = so := by
            rw [Int.tmod_eq_emod_of_nonneg (by omega)]; have := HSO.out; omega
          have hr2 : IntKind.u8.wrap so = so := by
            have := HSO.out
            exact IntWalk.u8_in _ (by omega)
          have hr3 : IntKind.i64.wrap so = so := by
            have := HSO.out
            exact IntWalk.i64_in _ (by omega)
          clear hbE hsoE hso hb256
          go_wp2_with fail
          go_meet
          case rel => exact ⟨by first | rfl | (go_simp; done), Lib.hid (by repeat (first | with_reducible exact Below.refl _ _ | (with_reducible refine Below.drew ?_)))⟩
        · have hkb1 : ¬ (k : Int) < (nb : Int) := by omega
          have hsoE := HOO.out
          unfold oF at hsoE
          rw [if_neg (show ¬ k < bs.length by rw [← HNB.out]; exact hkb)] at hsoE
          have HS1 := Lib.hid (show (1 : Int) = so by have := HSO.out; omega)
          clear hsoE hso
          go_wp2_with fail
          go_meet
          case rel => exact ⟨by rw [HS1.out], Lib.hid (by repeat (first | with_reducible exact Below.refl _ _ | (with_reducible refine Below.drew ?_)))⟩
      case rest =>
        obtain ⟨rfl, HWC⟩ := hcut
        have HSn := Lib.hid (HS5.out.next HWC.out)
        have K8n := Lib.hid ((HWC.out.block _ (lt_heap K8.out)).trans K8.out)
        clear HS5 K8 HB55
        have HS5 := HSn
        have K8 := K8n
        clear HSn K8n HWC
        by_cases ho : o = 1
        · have d1 : (so == 0) = true := by rw [beq_iff_eq]; have := HSO.out; omega
          have HO1 := Lib.hid ho
          clear ho
          have g0 := cell_of (j := 0) K8.out rfl
          have g1 := cell_of (j := 1) K8.out rfl
          have r0 := cell_of (j := 0) HS5.out.box rfl
          have r1 := cell_of (j := 1) HS5.out.box rfl
          have pi := HS5.out.cell (i := i) (by omega)
          have pj := HS5.out.cell (i := j) (by omega)
          have f1 := HS5.out.own.frozenAt i
          have f2 := HS5.out.own.frozenAt j
          go_upto_region 11 with fail
          go_still_tail 12, (by kernel_rfl)
          change wpList _ _ _ _ _ wc.drew
          refine nameG (w := wc.drew) fun W6 hW6 => ?_
          have HS6 := Lib.hid (HS5.out.next (W' := W6) (by rw [hW6.out]; exact Below.drew (Below.refl _ _)))
          have K6 := Lib.hid (show W6.heap[b8]? = some (.cells #[.int .i64 (i : Int), .int .i64 (j : Int)] 53 (0, 0)) by rw [hW6.out]; exact K8.out)
          clear hW6 HS5 K8 g0 g1 r0 r1 pi pj f1 f2
          have pi := HS6.out.cell (i := i) (by omega)
          have f1 := HS6.out.own.frozenAt i
          go_wp2_with fail
          go_roundw
          case rel => exact ⟨k + 1, by omega, by go_num, Lib.hid (by
            rw [HFS.out, show playR q p ((i : Int), (j : Int)) o = p.set i (nthI p i + q.win) from by unfold playR addP; rw [if_pos HO1.out]; rfl]
            exact HS6.out.store _)⟩
          case measure => simp [intOf]; omega
        have d1 : (so == 0) = false := by rw [beq_eq_false_iff_ne]; have := HSO.out; omega
        have HO0 := Lib.hid ho
        clear ho
        by_cases ho : o = 3
        · have d2 : (so == 1) = false := by rw [beq_eq_false_iff_ne]; have := HSO.out; omega
          have d3 : (so == 2) = true := by rw [beq_iff_eq]; have := HSO.out; omega
          have HO1 := Lib.hid ho
          clear ho
          have g0 := cell_of (j := 0) K8.out rfl
          have g1 := cell_of (j := 1) K8.out rfl
          have r0 := cell_of (j := 0) HS5.out.box rfl
          have r1 := cell_of (j := 1) HS5.out.box rfl
          have pi := HS5.out.cell (i := i) (by omega)
          have pj := HS5.out.cell (i := j) (by omega)
          have f1 := HS5.out.own.frozenAt i
          have f2 := HS5.out.own.frozenAt j
          go_upto_region 16 with fail
          go_still_tail 12, (by kernel_rfl)
          change wpList _ _ _ _ _ wc.drew
          refine nameG (w := wc.drew) fun W6 hW6 => ?_
          have HS6 := Lib.hid (HS5.out.next (W' := W6) (by rw [hW6.out]; exact Below.drew (Below.refl _ _)))
          have K6 := Lib.hid (show W6.heap[b8]? = some (.cells #[.int .i64 (i : Int), .int .i64 (j : Int)] 53 (0, 0)) by rw [hW6.out]; exact K8.out)
          clear hW6 HS5 K8 g0 g1 r0 r1 pi pj f1 f2
          have pi := HS6.out.cell (i := j) (by omega)
          have f1 := HS6.out.own.frozenAt j
          go_wp2_with fail
          go_roundw
          case rel => exact ⟨k + 1, by omega, by go_num, Lib.hid (by
            rw [HFS.out, show playR q p ((i : Int), (j : Int)) o = p.set j (nthI p j + q.win) from by unfold playR addP; rw [if_neg (by have := HO1.out; omega), if_pos HO1.out]; rfl]
            exact HS6.out.store _)⟩
          case measure => simp [intOf]; omega
        have d2 : (so == 1) = true := by rw [beq_iff_eq]; have := HSO.out; have := HO0.out; omega
        have HO1 := HO0
        have HO3 := Lib.hid ho
        clear ho
        have hij : i ≠ j := by omega
        have g0 := cell_of (j := 0) K8.out rfl
        have g1 := cell_of (j := 1) K8.out rfl
        have r0 := cell_of (j := 0) HS5.out.box rfl
        have r1 := cell_of (j := 1) HS5.out.box rfl
        have pi := HS5.out.cell (i := i) (by omega)
        have pj := HS5.out.cell (i := j) (by omega)
        have f1 := HS5.out.own.frozenAt i
        have f2 := HS5.out.own.frozenAt j
        go_upto_region 13 with fail
        go_still_tail 12, (by kernel_rfl)
        change wpList _ _ _ _ _ wc.drew
        refine nameG (w := wc.drew) fun W6 hW6 => ?_
        have HS6 := Lib.hid (HS5.out.next (W' := W6) (by rw [hW6.out]; exact Below.drew (Below.refl _ _)))
        have K6 := Lib.hid (show W6.heap[b8]? = some (.cells #[.int .i64 (i : Int), .int .i64 (j : Int)] 53 (0, 0)) by rw [hW6.out]; exact K8.out)
        clear hW6 HS5 K8 g0 g1 r0 r1 pi pj f1 f2
        have pi := HS6.out.cell (i := i) (by omega)
        have f1 := HS6.out.own.frozenAt i
        go_upto_region 14 with fail
        refine nameC fun W7 hW7 => ?_
        have HS7 := Lib.hid (show AbT 25 w g n cd #[.int .i64 q.win, .int .i64 q.draw, .slice cA n cc, .slice pA n pc, .slice (some ⟨eb, eo, none⟩) no oc, .int .i64 q.club, .int .i64 q.place] (p.set i (nthI p i + q.draw)) W7 by rw [hW7.out]; exact HS6.out.store _)
        have K7 := Lib.hid (show W7.heap[b8]? = some (.cells #[.int .i64 (i : Int), .int .i64 (j : Int)] 53 (0, 0)) by rw [hW7.out, heap_set_if, if_neg (by omega)]; exact K6.out)
        clear hW7 HS6 K6 pi f1
        have hnj : nthI (p.set i (nthI p i + q.draw)) j = nthI p j := by rw [nthI_set, if_neg (by omega)]
        have g0 := cell_of (j := 0) K7.out rfl
        have g1 := cell_of (j := 1) K7.out rfl
        have r0 := cell_of (j := 0) HS7.out.box rfl
        have r1 := cell_of (j := 1) HS7.out.box rfl
        have pi := HS7.out.cell (i := i) (by omega)
        have pj := HS7.out.cell (i := j) (by omega)
        have f1 := HS7.out.own.frozenAt i
        have f2 := HS7.out.own.frozenAt j
        rw [hnj] at pj
        go_still_tail 12, (by kernel_rfl)
        change wpList _ _ _ _ _ W7.drew
        refine nameG (w := W7.drew) fun W8 hW6 => ?_
        have HS6 := Lib.hid (HS7.out.next (W' := W8) (by rw [hW6.out]; exact Below.drew (Below.refl _ _)))
        have K6 := Lib.hid (show W8.heap[b8]? = some (.cells #[.int .i64 (i : Int), .int .i64 (j : Int)] 53 (0, 0)) by rw [hW6.out]; exact K7.out)
        clear hW6 HS7 K7 g0 g1 r0 r1 pi pj f1 f2
        have pi := HS6.out.cell (i := j) (by omega)
        have f1 := HS6.out.own.frozenAt j
        have HNJ := Lib.hid hnj
        clear hnj
        go_wp2_with fail
        go_roundw
        case rel => exact ⟨k + 1, by omega, by go_num, Lib.hid (by
          rw [HFS.out, show playR q p ((i : Int), (j : Int)) o = (p.set i (nthI p i + q.draw)).set j (nthI p j + q.draw) from by
            unfold playR addP; rw [if_neg HO1.out, if_neg HO3.out]
            show (p.set i (nthI p i + q.draw)).set j (nthI (p.set i (nthI p i + q.draw)) j + q.draw) = _
            rw [HNJ.out]]
          exact HS6.out.store _)⟩
        case measure => simp [intOf]; omega
    · have hnl : ¬ (k : Int) < (no : Int) := by omega
      obtain rfl : k = no := by omega
      have r4 := cell_of (j := 4) HS.out.box rfl
      obtain ⟨p, hpp⟩ : ∃ p, p = finTo q (oF bs) q.opn.length := ⟨_, rfl⟩
      rw [show finTo q (oF bs) k = p from by rw [hpp, HNO.out]] at HS
      have HPP := Lib.hid hpp
      clear hpp
      have hln := HS.out.len
      have HLN := Lib.hid hln
      clear hln
      go_wp2_with fail
      go_ret
      have hpr : rs = p := by rw [HRS.out, HPP.out]
      exact ⟨some ⟨g, 0, none⟩, cd, by rw [hpr, HLN.out]; rfl, by rw [hpr, HLN.out]; exact HS.out.own, HS.out.below⟩
end Go.Proofs.Ythlnfjbedehjdaa
