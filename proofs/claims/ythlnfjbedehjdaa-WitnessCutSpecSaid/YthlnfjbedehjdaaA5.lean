/- above: the points after a completion, and how many rivals stand above. -/
import Derived.Test.YthlnfjbedehjdaaO2
import Derived.StillTailTactics
namespace Go.Proofs.Ythlnfjbedehjdaa
open Go.RowKit Go.Shelf

theorem own_belowA {w w' : World} {base e sz n : Nat} {v : Value} {xs : List Value} (h : w.ownsRow base e sz v n xs) (hb : Below w.heap.size w w') : w'.ownsRow base e sz v n xs :=
  ⟨h.1, by
    rcases h.2 with ⟨rfl, hx⟩ | ⟨g, cap, cur, rfl, hg, hgb, rest⟩
    · exact .inl ⟨rfl, hx⟩
    · exact .inr ⟨g, cap, cur, rfl, hg, (hb.block g (lt_heap hgb)).trans hgb, rest⟩⟩
theorem size_setA (w : World) (a : Addr) (u : Value) : (w.setCell a u).heap.size = w.heap.size := by simp [World.setCell]
/-- the race's box and the row of points -/
structure AbS (w : World) (g n cap : Nat) (rv : Array Value) (p : List Int) (W : World) : Prop where
  box : W.heap[w.heap.size]? = some (.cells rv 55 (0, 0))
  own : W.ownsRow (w.heap.size + 1) 3 1 (.slice (some ⟨g, 0, none⟩) n cap) n (p.map i64v)
  below : Below w.heap.size w W
  lo : w.heap.size < g
  hi : g < W.heap.size
  len : p.length = n
section
variable {w W W' : World} {g n cap : Nat} {rv : Array Value} {p : List Int}
theorem AbS.next (h : AbS w g n cap rv p W) (hb : Below W.heap.size W W') : AbS w g n cap rv p W' :=
  ⟨(hb.block _ (lt_heap h.box)).trans h.box, own_belowA h.own hb, h.below.trans (hb.mono h.below.size), h.lo, Nat.lt_of_lt_of_le h.hi hb.size, h.len⟩
theorem AbS.cell (h : AbS w g n cap rv p W) {i : Nat} (hi : i < n) : W.cell? ⟨g, i, none⟩ = some (.int .i64 (nthI p i)) := by
  have := h.own.cellAt i (by omega)
  rw [this, List.getElem?_map, List.getElem?_eq_getElem (by rw [h.len]; exact hi), nthI_get (by rw [h.len]; exact hi)]
  rfl
theorem AbS.store (h : AbS w g n cap rv p W) {i : Nat} (x : Int) : AbS w g n cap rv (p.set i x) (W.setCell ⟨g, i, none⟩ (.int .i64 x)) := by
  have hlo := h.lo
  refine ⟨by rw [heap_set_if, if_neg (by omega)]; exact h.box, ?_, h.below.setCell (by show w.heap.size ≤ g; omega) _, h.lo, by rw [size_setA]; exact h.hi, by rw [List.length_set]; exact h.len⟩
  have := (h.own.stored i (i64v x)).1
  rwa [← List.map_set] at this
end
theorem own_posA {w : World} {base e n : Nat} {v : Value} {xs : List Value} (h : w.ownsRow base e 1 v n xs) (h0 : 0 < n) : ∃ g cap, v = .slice (some ⟨g, 0, none⟩) n cap ∧ base ≤ g ∧ n ≤ cap ∧ cap ≤ 9223372036854775807 ∧ g < w.heap.size := by
  rcases h.2 with ⟨rfl, hx⟩ | ⟨g, cap, cur, rfl, hb, hg, h1, h2, -⟩
  · have := h.1
    omega
  · exact ⟨g, cap, rfl, hb, h1, by simpa [maxLen] using h2, lt_heap hg⟩
set_option maxRecDepth 20000 in
set_option maxHeartbeats 4000000 in
theorem above_any (w : World) (M M' : Nat → Prop) (v u : Value) (q : RaceD) (outs : List Int) (h : IsRace w M v q) (h' : IsInts w M' u outs) (hv : ValidR q) (hl : outs.length = q.opn.length) :
    Calls Try.prog 27 #[v, u] w fun e w' => e = .returned (.tuple #[.int .i64 ((moreR q (finR q outs) : Nat) : Int), .int .i64 ((manyR q (finR q outs) : Nat) : Int)]) ∧ Below w.heap.size w w' := by
  obtain ⟨cA, cc, pA, pc, oA, oc, rfl, hc, hp, ho⟩ := h.parts
  obtain ⟨uA, uc, rfl, hu1, hu2, hu3⟩ := id h'
  have HP := Lib.hid hp
  have HO := Lib.hid ho
  have HU := Lib.hid h'
  have HV := Lib.hid hv
  have HL := Lib.hid hl
  have hn2 := hv.size.n2
  have hn24 := hv.size.n24
  have hpts := hv.size.pts
  have hop := hv.size.opn
  clear hc hp ho h h' hu1 hu2 hu3 hv hl
  obtain ⟨n, hn⟩ : ∃ n, n = q.clubs.length := ⟨_, rfl⟩
  obtain ⟨no, hno⟩ : ∃ no, no = q.opn.length := ⟨_, rfl⟩
  obtain ⟨nu, hnu⟩ : ∃ nu, nu = outs.length := ⟨_, rfl⟩
  obtain ⟨np, hnp⟩ : ∃ np, np = q.points.length := ⟨_, rfl⟩
  rw [← hn] at hn2 hn24 hpts
  rw [← hno] at hop
  rw [← hnp] at hpts
  have HN := Lib.hid hn
  have HNO := Lib.hid hno
  have HNU := Lib.hid hnu
  have HNP := Lib.hid hnp
  have HPT := Lib.hid hpts
  have CP := fun (W : World) (hB : Below w.heap.size w W) => Lib.hid (clone_any W M _ q.points (HP.out.below hB) (by omega))
  rw [← hnp] at CP
  rw [← hn, ← hno, ← hnu, ← hnp]
  clear hn hno hnu hnp hpts
  go_enter Try.func27, Try.ntmps27
  go_wp2_with fail
  refine nameW fun W1 hW1 => ?_
  have hb1 : Below w.heap.size w W1 := by rw [hW1.out]; exact (Below.refl _ _).alloc (Nat.le_refl _) _
  have k0 : W1.heap[w.heap.size]? = some (.cells #[.int .i64 q.win, .int .i64 q.draw, .slice cA n cc, .slice pA np pc, .slice oA no oc, .int .i64 q.club, .int .i64 q.place] 55 (0, 0)) := by rw [hW1.out]; exact heap_alloc_new _ _
  have hsz1 : W1.heap.size = w.heap.size + 1 := by rw [hW1.out]; simp
  have K0 := Lib.hid k0
  have HB1 := Lib.hid hb1
  have HZ1 := Lib.hid hsz1
  clear hW1 hb1 k0 hsz1
  refine (CP W1 HB1.out).out.mono ?_
  rintro e W2 ⟨A2, c2, rfl, hown, hb⟩
  rw [← HNP.out, HPT.out, HZ1.out] at hown
  rw [← HNP.out, HPT.out]
  obtain ⟨g, cap, e2, hg1, hg2, hg3, hg4⟩ := own_posA hown (by omega)
  have e3 := Value.slice.inj e2
  obtain ⟨rfl, -, rfl⟩ := e3
  have hS2 : AbS w g n c2 #[.int .i64 q.win, .int .i64 q.draw, .slice cA n cc, .slice pA np pc, .slice oA no oc, .int .i64 q.club, .int .i64 q.place] q.points W2 := ⟨(hb.block _ (lt_heap K0.out)).trans K0.out, hown, HB1.out.trans (hb.mono HB1.out.size), hg1, hg4, by rw [← HNP.out, HPT.out]⟩
  rw [HPT.out] at hS2
  have HS2 := Lib.hid hS2
  clear e2 hown hb hS2 K0 HB1 HZ1 CP hg4
  have r4 := cell_of (j := 4) HS2.out.box rfl
  go_wp2_with fail
  clear r4
  go_loopw [20] (fun i wr => ∃ k : Nat, k ≤ no ∧ i = .int .i64 (k : Int) ∧ Hid (AbS w g n c2 #[.int .i64 q.win, .int .i64 q.draw, .slice cA n cc, .slice pA n pc, .slice oA no oc, .int .i64 q.club, .int .i64 q.place] (finTo q (nthI outs) k) wr)) (fun i _ => no - (intOf i).toNat)
  case atStart => exact ⟨0, Nat.zero_le _, rfl, HS2⟩
  case round =>
    clear HS2
    obtain ⟨k, hk, rfl, HS⟩ := hrel
    by_cases hlt : k < no
    · obtain ⟨eb, eo, rfl, heb, e0, e1⟩ := HO.out.at_ HS.out.below (show k < q.opn.length by rw [← HNO.out]; exact hlt)
      obtain ⟨ub, uo, rfl, hub, hok⟩ := HU.out.at_ HS.out.below (show k < outs.length by rw [HL.out, ← HNO.out]; exact hlt)
      have hed := HV.out.edge _ (List.getElem_mem (show k < q.opn.length by rw [← HNO.out]; exact hlt))
      have hfs : finTo q (nthI outs) (k + 1) = playR q (finTo q (nthI outs) k) (nthE q.opn k) (nthI outs k) := rfl
      have hne : nthE q.opn k = q.opn[k]'(by rw [← HNO.out]; exact hlt) := by unfold nthE; rw [List.getD_eq_getElem?_getD, List.getElem?_eq_getElem, Option.getD_some]
      rw [hne] at hfs
      obtain ⟨⟨x, y⟩, hxy⟩ : ∃ e, e = q.opn[k]'(by rw [← HNO.out]; exact hlt) := ⟨_, rfl⟩
      rw [← hxy] at hed hfs e0 e1
      obtain ⟨⟨hx0, hxn⟩, ⟨hy0, hyn⟩, hxy2⟩ := hed
      dsimp only at hx0 hxn hy0 hyn hxy2 e0 e1
      obtain ⟨i, rfl⟩ : ∃ i : Nat, x = (i : Int) := ⟨x.toNat, by omega⟩
      obtain ⟨j, rfl⟩ : ∃ j : Nat, y = (j : Int) := ⟨y.toNat, by omega⟩
      rw [← HN.out] at hxn hyn
      obtain ⟨o, hoo⟩ : ∃ o, o = nthI outs k := ⟨_, rfl⟩
      rw [← hoo] at hok hfs
      obtain ⟨p, hpp⟩ : ∃ p, p = finTo q (nthI outs) k := ⟨_, rfl⟩
      have hin := finTo_in HV.out (nthI outs) k
      rw [← hpp] at HS hfs hin
      have HFS := Lib.hid hfs
      have hnu' : (k : Int) < (nu : Int) := by rw [HNU.out, HL.out, ← HNO.out]; omega
      have hk0 : (0 : Int) ≤ (k : Int) := by omega
      have hk1 : (k : Int) < (no : Int) := by omega
      clear hfs hne hxy hoo hpp hx0 hy0 hlt
      go_upto_region 5 with fail
      refine nameC fun W5 hW5 => ?_
      have hb5 : Below wr.heap.size wr W5 := by rw [hW5.out]; exact (Below.refl _ _).alloc (Nat.le_refl _) _
      have k8 : W5.heap[wr.heap.size]? = some (.cells #[.int .i64 (i : Int), .int .i64 (j : Int)] 53 (0, 0)) := by rw [hW5.out]; exact heap_alloc_new _ _
      obtain ⟨b8, hb8⟩ : ∃ b8, b8 = wr.heap.size := ⟨_, rfl⟩
      have hg8 : g < b8 := by rw [hb8]; exact HS.out.hi
      rw [← hb8] at k8 ⊢
      have HS5 := Lib.hid (HS.out.next hb5)
      have hok5 := (hb5.cell (p := ⟨ub, uo + k, none⟩) (Nat.lt_of_lt_of_le hub HS.out.below.size)).trans hok
      have K8 := Lib.hid k8
      clear hW5 hb5 k8 hb8 HS hok e0 e1
      have hi0 : (0 : Int) ≤ (i : Int) := by omega
      have hj0 : (0 : Int) ≤ (j : Int) := by omega
      have hpi := hin i
      have hpj := hin j
      have hw1 := HV.out.size.d0
      have hw2 := HV.out.size.dw
      have hw3 := HV.out.size.w9
      have HIN := Lib.hid hin
      clear hin
      by_cases ho1 : o = 1
      · have d1 : (o == 1) = true := by simpa using ho1
        have HO1 := Lib.hid ho1
        clear ho1
        have g0 := cell_of (j := 0) K8.out rfl
        have g1 := cell_of (j := 1) K8.out rfl
        have r0 := cell_of (j := 0) HS5.out.box rfl
        have r1 := cell_of (j := 1) HS5.out.box rfl
        have pi := HS5.out.cell (i := i) (by omega)
        have pj := HS5.out.cell (i := j) (by omega)
        have f1 := HS5.out.own.frozenAt i
        have f2 := HS5.out.own.frozenAt j
        go_upto_region 9 with fail
        go_still_tail 10, (by kernel_rfl)
        change wpList _ _ _ _ _ W5.drew
        refine nameG (w := W5.drew) fun W6 hW6 => ?_
        have HS6 := Lib.hid (HS5.out.next (W' := W6) (by rw [hW6.out]; exact Below.drew (Below.refl _ _)))
        have K6 := Lib.hid (show W6.heap[b8]? = some (.cells #[.int .i64 (i : Int), .int .i64 (j : Int)] 53 (0, 0)) by rw [hW6.out]; exact K8.out)
        clear hW6 HS5 K8 g0 g1 r0 r1 pi pj f1 f2
        have pi := HS6.out.cell (i := i) (by omega)
        have f1 := HS6.out.own.frozenAt i
        go_wp2_with fail
        go_roundw
        case rel => exact ⟨k + 1, by omega, rfl, Lib.hid (by
          rw [HFS.out, show playR q p ((i : Int), (j : Int)) o = p.set i (nthI p i + q.win) from by unfold playR addP; rw [if_pos HO1.out]; rfl]
          exact HS6.out.store _)⟩
        case measure => simp [intOf]; omega
      have d1 : (o == 1) = false := by simpa using ho1
      have HO1 := Lib.hid ho1
      clear ho1
      by_cases ho3 : o = 3
      · have d3 : (o == 3) = true := by simpa using ho3
        have HO3 := Lib.hid ho3
        clear ho3
        have g0 := cell_of (j := 0) K8.out rfl
        have g1 := cell_of (j := 1) K8.out rfl
        have r0 := cell_of (j := 0) HS5.out.box rfl
        have r1 := cell_of (j := 1) HS5.out.box rfl
        have pi := HS5.out.cell (i := i) (by omega)
        have pj := HS5.out.cell (i := j) (by omega)
        have f1 := HS5.out.own.frozenAt i
        have f2 := HS5.out.own.frozenAt j
        go_upto_region 11 with fail
        go_still_tail 10, (by kernel_rfl)
        change wpList _ _ _ _ _ W5.drew
        refine nameG (w := W5.drew) fun W6 hW6 => ?_
        have HS6 := Lib.hid (HS5.out.next (W' := W6) (by rw [hW6.out]; exact Below.drew (Below.refl _ _)))
        have K6 := Lib.hid (show W6.heap[b8]? = some (.cells #[.int .i64 (i : Int), .int .i64 (j : Int)] 53 (0, 0)) by rw [hW6.out]; exact K8.out)
        clear hW6 HS5 K8 g0 g1 r0 r1 pi pj f1 f2
        have pi := HS6.out.cell (i := j) (by omega)
        have f1 := HS6.out.own.frozenAt j
        go_wp2_with fail
        go_roundw
        case rel => exact ⟨k + 1, by omega, rfl, Lib.hid (by
          rw [HFS.out, show playR q p ((i : Int), (j : Int)) o = p.set j (nthI p j + q.win) from by unfold playR addP; rw [if_neg HO1.out, if_pos HO3.out]; rfl]
          exact HS6.out.store _)⟩
        case measure => simp [intOf]; omega
      have d3 : (o == 3) = false := by simpa using ho3
      have HO3 := Lib.hid ho3
      clear ho3
      have hij : i ≠ j := by omega
      have g0 := cell_of (j := 0) K8.out rfl
      have g1 := cell_of (j := 1) K8.out rfl
      have r0 := cell_of (j := 0) HS5.out.box rfl
      have r1 := cell_of (j := 1) HS5.out.box rfl
      have pi := HS5.out.cell (i := i) (by omega)
      have pj := HS5.out.cell (i := j) (by omega)
      have f1 := HS5.out.own.frozenAt i
      have f2 := HS5.out.own.frozenAt j
      go_upto_region 6 with fail
      go_still_tail 10, (by kernel_rfl)
      change wpList _ _ _ _ _ W5.drew
      refine nameG (w := W5.drew) fun W6 hW6 => ?_
      have HS6 := Lib.hid (HS5.out.next (W' := W6) (by rw [hW6.out]; exact Below.drew (Below.refl _ _)))
      have K6 := Lib.hid (show W6.heap[b8]? = some (.cells #[.int .i64 (i : Int), .int .i64 (j : Int)] 53 (0, 0)) by rw [hW6.out]; exact K8.out)
      clear hW6 HS5 K8 g0 g1 r0 r1 pi pj f1 f2
      have pi := HS6.out.cell (i := i) (by omega)
      have f1 := HS6.out.own.frozenAt i
      go_upto_region 7 with fail
      refine nameC fun W7 hW7 => ?_
      have HS7 := Lib.hid (show AbS w g n c2 #[.int .i64 q.win, .int .i64 q.draw, .slice cA n cc, .slice pA n pc, .slice (some ⟨eb, eo, none⟩) no oc, .int .i64 q.club, .int .i64 q.place] (p.set i (nthI p i + q.draw)) W7 by rw [hW7.out]; exact HS6.out.store _)
      have K7 := Lib.hid (show W7.heap[b8]? = some (.cells #[.int .i64 (i : Int), .int .i64 (j : Int)] 53 (0, 0)) by rw [hW7.out, heap_set_if, if_neg (by omega)]; exact K6.out)
      clear hW7 HS6 K6 pi f1
      have g0 := cell_of (j := 0) K7.out rfl
      have g1 := cell_of (j := 1) K7.out rfl
      have r0 := cell_of (j := 0) HS7.out.box rfl
      have r1 := cell_of (j := 1) HS7.out.box rfl
      have pi := HS7.out.cell (i := i) (by omega)
      have pj := HS7.out.cell (i := j) (by omega)
      have f1 := HS7.out.own.frozenAt i
      have f2 := HS7.out.own.frozenAt j
      have hnj : nthI (p.set i (nthI p i + q.draw)) j = nthI p j := by rw [nthI_set, if_neg (by omega)]
      rw [hnj] at pj
      go_still_tail 10, (by kernel_rfl)
      change wpList _ _ _ _ _ W7.drew
      refine nameG (w := W7.drew) fun W8 hW6 => ?_
      have HS6 := Lib.hid (HS7.out.next (W' := W8) (by rw [hW6.out]; exact Below.drew (Below.refl _ _)))
      clear hW6 HS7 K7 g0 g1 r0 r1 pi pj f1 f2
      have pj := HS6.out.cell (i := j) (by omega)
      have f1 := HS6.out.own.frozenAt j
      have HNJ := Lib.hid hnj
      clear hnj
      go_wp2_with fail
      go_roundw
      case rel => exact ⟨k + 1, by omega, rfl, Lib.hid (by
        rw [HFS.out, show playR q p ((i : Int), (j : Int)) o = (p.set i (nthI p i + q.draw)).set j (nthI p j + q.draw) from by
          unfold playR addP; rw [if_neg HO1.out, if_neg HO3.out]
          show (p.set i (nthI p i + q.draw)).set j (nthI (p.set i (nthI p i + q.draw)) j + q.draw) = _
          rw [HNJ.out]]
        exact HS6.out.store _)⟩
      case measure => simp [intOf]; omega
    · have hnl : ¬ (k : Int) < (no : Int) := by omega
      obtain rfl : k = no := by omega
      obtain ⟨p, hpp⟩ : ∃ p, p = finR q outs := ⟨_, rfl⟩
      rw [show finTo q (nthI outs) k = p from by rw [hpp, HNO.out]; rfl] at HS
      have hc0 := HV.out.size.c0
      have hcn := HV.out.size.cn
      obtain ⟨c, hcc⟩ : ∃ c : Nat, q.club = (c : Int) := ⟨q.club.toNat, by omega⟩
      have hcn2 : c < n := by rw [HN.out]; omega
      obtain ⟨y, hy⟩ : ∃ y, y = nthI p c := ⟨_, rfl⟩
      have HPP := Lib.hid hpp
      have HCC := Lib.hid hcc
      have HY := Lib.hid hy
      have hpl := HS.out.len
      have HPL := Lib.hid hpl
      have r5 := cell_of (j := 5) HS.out.box rfl
      have r5' : wr.cell? ⟨w.heap.size, 5, none⟩ = some (.int .i64 (c : Int)) := by rw [← hcc]; exact r5
      have py := HS.out.cell hcn2
      rw [← hy] at py
      have hc00 : (0 : Int) ≤ (c : Int) := by omega
      have hcn3 : (c : Int) < (n : Int) := by omega
      clear hpp hcc hy hpl hc0 hcn r5
      go_wp2_with fail
      clear py
      go_loop [4, 5, 82] (fun q4 q5 i => ∃ t : Nat, t ≤ n ∧ i = .int .i64 (t : Int) ∧ q4 = .int .i64 ((moreTo (c : Int) p t : Nat) : Int) ∧ q5 = .int .i64 ((manyTo (c : Int) p t : Nat) : Int)) (fun _ _ i => n - (intOf i).toNat)
      case atStart => exact ⟨0, Nat.zero_le _, rfl, rfl, rfl⟩
      case round =>
        obtain ⟨t, ht, rfl, rfl, rfl⟩ := hrel
        by_cases htn : t < n
        · have pt := HS.out.cell htn
          have h1 := moreTo_succ (c : Int) p t
          have h2 := manyTo_succ (c : Int) p t
          have b1 := moreTo_le (c : Int) p t
          have b2 := manyTo_le (c : Int) p t
          rw [show (c : Int).toNat = c from Int.toNat_natCast c, ← HY.out] at h1 h2
          obtain ⟨z, hz⟩ : ∃ z, z = nthI p t := ⟨_, rfl⟩
          rw [← hz] at pt h1 h2
          obtain ⟨A, hA⟩ : ∃ A, A = moreTo (c : Int) p t := ⟨_, rfl⟩
          obtain ⟨B, hB⟩ : ∃ B, B = manyTo (c : Int) p t := ⟨_, rfl⟩
          rw [← hA] at h1 b1 ⊢
          rw [← hB] at h2 b2 ⊢
          clear hz hA hB
          have ht0 : (0 : Int) ≤ (t : Int) := by omega
          have ht1 : (t : Int) < (n : Int) := by omega
          have hA1 : (A : Int) ≤ 24 := by omega
          have hB1 : (B : Int) ≤ 24 := by omega
          have hn25 : (n : Int) ≤ 24 := by omega
          by_cases htc : t = c
          · have e1 : ((t : Int) != (c : Int)) = false := by rw [bne_eq_false_iff_eq]; omega
            have H1 := Lib.hid (show moreTo (c : Int) p (t + 1) = A by rw [h1, if_neg (by omega)]; rfl)
            have H2 := Lib.hid (show manyTo (c : Int) p (t + 1) = B by rw [h2, if_neg (by omega)]; rfl)
            clear h1 h2 htc b1 b2
            go_wp2_with fail
            go_round
            case rel => exact ⟨t + 1, by omega, by go_num, by rw [H1.out], by rw [H2.out]⟩
            case measure => simp [intOf]; omega
          have e1 : ((t : Int) != (c : Int)) = true := by rw [bne_iff_ne]; omega
          by_cases hyz : y < z
          · have d1 : decide (y < z) = true := decide_eq_true hyz
            have d2 : decide (y ≤ z) = true := decide_eq_true (by omega)
            have H1 := Lib.hid (show moreTo (c : Int) p (t + 1) = A + 1 by rw [h1, if_pos (by omega)])
            have H2 := Lib.hid (show manyTo (c : Int) p (t + 1) = B + 1 by rw [h2, if_pos (by omega)])
            clear h1 h2 htc b1 b2
            go_wp2_with fail
            go_round
            case rel => exact ⟨t + 1, by omega, by go_num, by rw [H1.out]; rfl, by rw [H2.out]; rfl⟩
            case measure => simp [intOf]; omega
          have d1 : decide (y < z) = false := decide_eq_false hyz
          by_cases hyz2 : y ≤ z
          · have d2 : decide (y ≤ z) = true := decide_eq_true hyz2
            have H1 := Lib.hid (show moreTo (c : Int) p (t + 1) = A by rw [h1, if_neg (by omega)]; rfl)
            have H2 := Lib.hid (show manyTo (c : Int) p (t + 1) = B + 1 by rw [h2, if_pos (by omega)])
            clear h1 h2 htc b1 b2
            go_wp2_with fail
            go_round
            case rel => exact ⟨t + 1, by omega, by go_num, by rw [H1.out], by rw [H2.out]; rfl⟩
            case measure => simp [intOf]; omega
          · have d2 : decide (y ≤ z) = false := decide_eq_false hyz2
            have H1 := Lib.hid (show moreTo (c : Int) p (t + 1) = A by rw [h1, if_neg (by omega)]; rfl)
            have H2 := Lib.hid (show manyTo (c : Int) p (t + 1) = B by rw [h2, if_neg (by omega)]; rfl)
            clear h1 h2 htc b1 b2
            go_wp2_with fail
            go_round
            case rel => exact ⟨t + 1, by omega, by go_num, by rw [H1.out], by rw [H2.out]⟩
            case measure => simp [intOf]; omega
        · have hnl2 : ¬ (t : Int) < (n : Int) := by omega
          obtain rfl : t = n := by omega
          go_wp2_with fail
          go_ret2
          refine ⟨?_, HS.out.below⟩
          rw [← HPP.out]
          unfold moreR manyR
          rw [HPL.out, HCC.out]
          rfl
end Go.Proofs.Ythlnfjbedehjdaa
