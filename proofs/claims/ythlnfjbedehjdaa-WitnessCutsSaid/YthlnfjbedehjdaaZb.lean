import Derived.Test.YthlnfjbedehjdaaZa
import Derived.Test.YthlnfjbedehjdaaAp
import Derived.Test.YthlnfjbedehjdaaRep
import Derived.Lib.SliceRun
import Derived.StillTailTactics
/- slices.Clone of ints. -/
namespace Go.Proofs.Ythlnfjbedehjdaa
open Go.RowKit Go.Deep
theorem own_sl {w : World} {base e sz n : Nat} {v : Value} {xs : List Value} (h : w.ownsRow base e sz v n xs) : ∃ A c, v = .slice A n c := by
  obtain ⟨-, h2⟩ := h
  rcases h2 with ⟨rfl, rfl⟩ | ⟨b, cap, cur, rfl, -⟩
  · exact ⟨none, 0, rfl⟩
  · exact ⟨_, _, rfl⟩
theorem own_lt {w : World} {base e sz n : Nat} {v : Value} {xs : List Value} (h : w.ownsRow base e sz v n xs) : ∀ g, v.ownBlock = some g → base ≤ g ∧ g < w.heap.size := by
  intro g hg
  rcases h.2 with ⟨rfl, _⟩ | ⟨b, cap, cur, rfl, hb, hh, _⟩
  · simp [Value.ownBlock] at hg
  · simp [Value.ownBlock] at hg; subst hg; exact ⟨hb, lt_heap hh⟩

/-- append of a slice of ints onto an own row of ints -/
theorem wpList_ints {ops : Array Oper} {rest : List Oper} {o : Oper} {a : Act} {w : World} {Q : Exit → Act → World → Prop} (hg : o.guard = none) (s x : Operand) (hop : o.op = .call { callee := .builtin .append, args := #[s, x], argTypes := #[22, 22] })
    (base : Nat) (l m : List Int) {M : Nat → Prop} {v : Value} {A : Option Addr} {n c : Nat} (hs : a.eval s = v) (hown : w.ownsRow base 3 1 v l.length (l.map i64v)) (hx : a.eval x = .slice A n c) (hm : IsInts w M (.slice A n c) m) (hl : l.length + m.length < 1000000) (hbase : base ≤ w.heap.size)
    (h : ∀ A d w', Hid (w'.ownsRow base 3 1 (.slice A (l ++ m).length d) (l ++ m).length ((l ++ m).map i64v) ∧ Below base w w' ∧ ∀ k, k < w.heap.size → v.ownBlock ≠ some k → w'.heap[k]? = w.heap[k]?) → wpList Try.prog ops Q rest (a.put o.dst (.slice A (l ++ m).length d)) w') : wpList Try.prog ops Q (o :: rest) a w := by
  obtain ⟨i, hi, hz, hsz, hb⟩ := info_parts Try.infoI64
  have hm' := hm
  obtain ⟨A', c', e, -, -, -⟩ := hm
  cases e
  refine wpList_append_cells w hg s x 22 hop base 3 i _ 1 8 Try.underlying22 hi hz hsz hb rfl (by decide) v l.length (l.map i64v) hs hown A m.length c (m.map i64v) hx (by simp) (fun h0 => ?_) (fun u hu => by obtain ⟨y, -, rfl⟩ := List.mem_map.1 hu; rfl) (by unfold maxLen; omega) (by omega) hbase fun v' w' h1 h2 h3 => ?_
  · obtain ⟨b, off, rfl, -, -⟩ := hm'.at_ (Below.refl _ _) h0
    refine ⟨_, rfl, fun j u hj => ?_⟩
    have hjl : j < m.length := by have := (List.getElem?_eq_some_iff.1 hj).1; simpa using this
    obtain ⟨b2, off2, e2, -, hc⟩ := hm'.at_ (Below.refl _ _) hjl
    cases e2
    rw [addr_add, hc, nthI_get hjl]
    simpa [hjl, i64v] using hj
  · obtain ⟨A, d, rfl⟩ := own_sl h1
    rw [← List.length_append] at h1
    have h4 : Below base w w' := (Below.refl base w).grown h2 hbase fun k e => (own_lt hown k e).1
    have h5 : ∀ k, k < w.heap.size → v.ownBlock ≠ some k → w'.heap[k]? = w.heap[k]? := fun k hk hne => h2.block k hk fun e => hne e.symm
    rw [← List.map_append] at h1
    have h6 := h A d w'
    rw [List.length_append] at h1 h6
    exact h6 (Lib.hid ⟨h1, h4, h5⟩)
def CloneW (w : World) (l : List Int) (e : Ending) (w' : World) : Prop := ∃ A c, e = .returned (.slice A l.length c) ∧ w'.ownsRow w.heap.size 3 1 (.slice A l.length c) l.length (l.map i64v) ∧ Below w.heap.size w w'
set_option maxHeartbeats 1000000 in
theorem clone_any (w : World) (M : Nat → Prop) (v : Value) (l : List Int) (h : IsInts w M v l) (hl : l.length ≤ 100000) : Calls Try.prog 46 #[v] w (CloneW w l) := by
  have HI := Lib.hid h
  have q22 : ∀ (w : World) (a : Option Addr) (n c n' c' : Nat), (binOp .eql 22 (.slice a n c) (.slice none n' c')).run Try.prog w = .ok (.bool a.isNone) w := fun w a n c n' c' => Go.Lib.run_eql_slice_nil w _ _ a n c n' c' Try.underlying22
  obtain ⟨A, c, rfl, -, -, hc⟩ := h
  cases A with
  | none =>
    have h0 : l = [] := by
      rcases Nat.eq_zero_or_pos l.length with e | e
      · exact List.eq_nil_of_length_eq_zero e
      · obtain ⟨b, off, e2, -⟩ := hc e
        cases e2
    subst h0
    clear hc
    go_enter Try.func46, Try.ntmps46
    go_wp2_with fail
    go_ret
    exact ⟨none, 0, rfl, own_nil _ _ _ _, Below.refl _ _⟩
  | some ad =>
    clear hc
    go_enter Try.func46, Try.ntmps46
    go_wp2_with (refine wpList_ints rfl (.tmp 5) (.tmp 6) rfl w.heap.size [] l (M := M) rfl (own_empty (by rw [heap_alloc_if, if_pos rfl]) (Nat.le_refl _)) rfl (HI.out.below ((Below.refl _ _).alloc (Nat.le_refl _) _)) (by simp; omega) (by simp) ?_; intro A9 d9 w9 H9)
    go_ret
    exact ⟨A9, d9, rfl, by have := H9.out.1; rwa [List.nil_append] at this, ((Below.refl _ _).alloc (Nat.le_refl _) _).trans H9.out.2.1⟩
end Go.Proofs.Ythlnfjbedehjdaa
/- above: the points after a completion, and how many rivals stand above. -/
namespace Go.Proofs.Ythlnfjbedehjdaa
open Go.RowKit Go.Shelf

theorem own_belowA {w w' : World} {base e sz n : Nat} {v : Value} {xs : List Value} (h : w.ownsRow base e sz v n xs) (hb : Below w.heap.size w w') : w'.ownsRow base e sz v n xs :=
  ⟨h.1, by
    rcases h.2 with ⟨rfl, hx⟩ | ⟨g, cap, cur, rfl, hg, hgb, rest⟩
    · exact .inl ⟨rfl, hx⟩
    · exact .inr ⟨g, cap, cur, rfl, hg, (hb.block g (lt_heap hgb)).trans hgb, rest⟩⟩
theorem size_setA (w : World) (a : Addr) (u : Value) : (w.setCell a u).heap.size = w.heap.size := by simp [World.setCell]
/-- the race's box and the row of points -/
structure AbS (w : World) (g n cap : Nat) (rv : Array Value) (p : List Int) (W : World) : Prop where
  box : W.heap[w.heap.size]? = some (.cells rv 55 (0, 0))
  own : W.ownsRow (w.heap.size + 1) 3 1 (.slice (some ⟨g, 0, none⟩) n cap) n (p.map i64v)
  below : Below w.heap.size w W
  lo : w.heap.size < g
  hi : g < W.heap.size
  len : p.length = n
section
variable {w W W' : World} {g n cap : Nat} {rv : Array Value} {p : List Int}
theorem AbS.next (h : AbS w g n cap rv p W) (hb : Below W.heap.size W W') : AbS w g n cap rv p W' :=
  ⟨(hb.block _ (lt_heap h.box)).trans h.box, own_belowA h.own hb, h.below.trans (hb.mono h.below.size), h.lo, Nat.lt_of_lt_of_le h.hi hb.size, h.len⟩
theorem AbS.cell (h : AbS w g n cap rv p W) {i : Nat} (hi : i < n) : W.cell? ⟨g, i, none⟩ = some (.int .i64 (nthI p i)) := by
  have := h.own.cellAt i (by omega)
  rw [this, List.getElem?_map, List.getElem?_eq_getElem (by rw [h.len]; exact hi), nthI_get (by rw [h.len]; exact hi)]
  rfl
theorem AbS.store (h : AbS w g n cap rv p W) {i : Nat} (x : Int) : AbS w g n cap rv (p.set i x) (W.setCell ⟨g, i, none⟩ (.int .i64 x)) := by
  have hlo := h.lo
  refine ⟨by rw [heap_set_if, if_neg (by omega)]; exact h.box, ?_, h.below.setCell (by show w.heap.size ≤ g; omega) _, h.lo, by rw [size_setA]; exact h.hi, by rw [List.length_set]; exact h.len⟩
  have := (h.own.stored i (i64v x)).1
  rwa [← List.map_set] at this
end
theorem own_posA {w : World} {base e n : Nat} {v : Value} {xs : List Value} (h : w.ownsRow base e 1 v n xs) (h0 : 0 < n) : ∃ g cap, v = .slice (some ⟨g, 0, none⟩) n cap ∧ base ≤ g ∧ n ≤ cap ∧ cap ≤ 9223372036854775807 ∧ g < w.heap.size := by
  rcases h.2 with ⟨rfl, hx⟩ | ⟨g, cap, cur, rfl, hb, hg, h1, h2, -⟩
  · have := h.1
    omega
  · exact ⟨g, cap, rfl, hb, h1, by simpa [maxLen] using h2, lt_heap hg⟩
set_option maxRecDepth 20000 in
set_option maxHeartbeats 4000000 in
theorem above_any (w : World) (M M' : Nat → Prop) (v u : Value) (q : RaceD) (outs : List Int) (h : IsRace w M v q) (h' : IsInts w M' u outs) (hv : ValidR q) (hl : outs.length = q.opn.length) :
    Calls Try.prog 27 #[v, u] w fun e w' => e = .returned (.tuple #[.int .i64 ((moreR q (finR q outs) : Nat) : Int), .int .i64 ((manyR q (finR q outs) : Nat) : Int)]) ∧ Below w.heap.size w w' := by
  obtain ⟨cA, cc, pA, pc, oA, oc, rfl, hc, hp, ho⟩ := h.parts
  obtain ⟨uA, uc, rfl, hu1, hu2, hu3⟩ := id h'
  have HP := Lib.hid hp
  have HO := Lib.hid ho
  have HU := Lib.hid h'
  have HV := Lib.hid hv
  have HL := Lib.hid hl
  have hn2 := hv.size.n2
  have hn24 := hv.size.n24
  have hpts := hv.size.pts
  have hop := hv.size.opn
  clear hc hp ho h h' hu1 hu2 hu3 hv hl
  obtain ⟨n, hn⟩ : ∃ n, n = q.clubs.length := ⟨_, rfl⟩
  obtain ⟨no, hno⟩ : ∃ no, no = q.opn.length := ⟨_, rfl⟩
  obtain ⟨nu, hnu⟩ : ∃ nu, nu = outs.length := ⟨_, rfl⟩
  obtain ⟨np, hnp⟩ : ∃ np, np = q.points.length := ⟨_, rfl⟩
  rw [← hn] at hn2 hn24 hpts
  rw [← hno] at hop
  rw [← hnp] at hpts
  have HN := Lib.hid hn
  have HNO := Lib.hid hno
  have HNU := Lib.hid hnu
  have HNP := Lib.hid hnp
  have HPT := Lib.hid hpts
  have CP := fun (W : World) (hB : Below w.heap.size w W) => Lib.hid (clone_any W M _ q.points (HP.out.below hB) (by omega))
  rw [← hnp] at CP
  rw [← hn, ← hno, ← hnu, ← hnp]
  clear hn hno hnu hnp hpts
  go_enter Try.func27, Try.ntmps27
  go_wp2_with fail
  refine nameW fun W1 hW1 => ?_
  have hb1 : Below w.heap.size w W1 := by rw [hW1.out]; exact (Below.refl _ _).alloc (Nat.le_refl _) _
  have k0 : W1.heap[w.heap.size]? = some (.cells #[.int .i64 q.win, .int .i64 q.draw, .slice cA n cc, .slice pA np pc, .slice oA no oc, .int .i64 q.club, .int .i64 q.place] 55 (0, 0)) := by rw [hW1.out]; exact heap_alloc_new _ _
  have hsz1 : W1.heap.size = w.heap.size + 1 := by rw [hW1.out]; simp
  have K0 := Lib.hid k0
  have HB1 := Lib.hid hb1
  have HZ1 := Lib.hid hsz1
  clear hW1 hb1 k0 hsz1
  refine (CP W1 HB1.out).out.mono ?_
  rintro e W2 ⟨A2, c2, rfl, hown, hb⟩
  rw [← HNP.out, HPT.out, HZ1.out] at hown
  rw [← HNP.out, HPT.out]
  obtain ⟨g, cap, e2, hg1, hg2, hg3, hg4⟩ := own_posA hown (by omega)
  have e3 := Value.slice.inj e2
  obtain ⟨rfl, -, rfl⟩ := e3
  have hS2 : AbS w g n c2 #[.int .i64 q.win, .int .i64 q.draw, .slice cA n cc, .slice pA np pc, .slice oA no oc, .int .i64 q.club, .int .i64 q.place] q.points W2 := ⟨(hb.block _ (lt_heap K0.out)).trans K0.out, hown, HB1.out.trans (hb.mono HB1.out.size), hg1, hg4, by rw [← HNP.out, HPT.out]⟩
  rw [HPT.out] at hS2
  have HS2 := Lib.hid hS2
  clear e2 hown hb hS2 K0 HB1 HZ1 CP hg4
  have r4 := cell_of (j := 4) HS2.out.box rfl
  go_wp2_with fail
  clear r4
  go_loopw [20] (fun i wr => ∃ k : Nat, k ≤ no ∧ i = .int .i64 (k : Int) ∧ Hid (AbS w g n c2 #[.int .i64 q.win, .int .i64 q.draw, .slice cA n cc, .slice pA n pc, .slice oA no oc, .int .i64 q.club, .int .i64 q.place] (finTo q (nthI outs) k) wr)) (fun i _ => no - (intOf i).toNat)
  case atStart => exact ⟨0, Nat.zero_le _, rfl, HS2⟩
  case round =>
    clear HS2
    obtain ⟨k, hk, rfl, HS⟩ := hrel
    by_cases hlt : k < no
    · obtain ⟨eb, eo, rfl, heb, e0, e1⟩ := HO.out.at_ HS.out.below (show k < q.opn.length by rw [← HNO.out]; exact hlt)
      obtain ⟨ub, uo, rfl, hub, hok⟩ := HU.out.at_ HS.out.below (show k < outs.length by rw [HL.out, ← HNO.out]; exact hlt)
      have hed := HV.out.edge _ (List.getElem_mem (show k < q.opn.length by rw [← HNO.out]; exact hlt))
      have hfs : finTo q (nthI outs) (k + 1) = playR q (finTo q (nthI outs) k) (nthE q.opn k) (nthI outs k) := rfl
      have hne : nthE q.opn k = q.opn[k]'(by rw [← HNO.out]; exact hlt) := by unfold nthE; rw [List.getD_eq_getElem?_getD, List.getElem?_eq_getElem, Option.getD_some]
      rw [hne] at hfs
      obtain ⟨⟨x, y⟩, hxy⟩ : ∃ e, e = q.opn[k]'(by rw [← HNO.out]; exact hlt) := ⟨_, rfl⟩
      rw [← hxy] at hed hfs e0 e1
      obtain ⟨⟨hx0, hxn⟩, ⟨hy0, hyn⟩, hxy2⟩ := hed
      dsimp only at hx0 hxn hy0 hyn hxy2 e0 e1
      obtain ⟨i, rfl⟩ : ∃ i : Nat, x = (i : Int) := ⟨x.toNat, by omega⟩
      obtain ⟨j, rfl⟩ : ∃ j : Nat, y = (j : Int) := ⟨y.toNat, by omega⟩
      rw [← HN.out] at hxn hyn
      obtain ⟨o, hoo⟩ : ∃ o, o = nthI outs k := ⟨_, rfl⟩
      rw [← hoo] at hok hfs
      obtain ⟨p, hpp⟩ : ∃ p, p = finTo q (nthI outs) k := ⟨_, rfl⟩
      have hin := finTo_in HV.out (nthI outs) k
      rw [← hpp] at HS hfs hin
      have HFS := Lib.hid hfs
      have hnu' : (k : Int) < (nu : Int) := by rw [HNU.out, HL.out, ← HNO.out]; omega
      have hk0 : (0 : Int) ≤ (k : Int) := by omega
      have hk1 : (k : Int) < (no : Int) := by omega
      clear hfs hne hxy hoo hpp hx0 hy0 hlt
      go_upto_region 5 with fail
      refine nameC fun W5 hW5 => ?_
      have hb5 : Below wr.heap.size wr W5 := by rw [hW5.out]; exact (Below.refl _ _).alloc (Nat.le_refl _) _
      have k8 : W5.heap[wr.heap.size]? = some (.cells #[.int .i64 (i : Int), .int .i64 (j : Int)] 53 (0, 0)) := by rw [hW5.out]; exact heap_alloc_new _ _
      obtain ⟨b8, hb8⟩ : ∃ b8, b8 = wr.heap.size := ⟨_, rfl⟩
      have hg8 : g < b8 := by rw [hb8]; exact HS.out.hi
      rw [← hb8] at k8 ⊢
      have HS5 := Lib.hid (HS.out.next hb5)
      have hok5 := (hb5.cell (p := ⟨ub, uo + k, none⟩) (Nat.lt_of_lt_of_le hub HS.out.below.size)).trans hok
      have K8 := Lib.hid k8
      clear hW5 hb5 k8 hb8 HS hok e0 e1
      have hi0 : (0 : Int) ≤ (i : Int) := by omega
      have hj0 : (0 : Int) ≤ (j : Int) := by omega
      have hpi := hin i
      have hpj := hin j
      have hw1 := HV.out.size.d0
      have hw2 := HV.out.size.dw
      have hw3 := HV.out.size.w9
      have HIN := Lib.hid hin
      clear hin
      by_cases ho1 : o = 1
      · have d1 : (o == 1) = true := by simpa using ho1
        have HO1 := Lib.hid ho1
        clear ho1
        have g0 := cell_of (j := 0) K8.out rfl
        have g1 := cell_of (j := 1) K8.out rfl
        have r0 := cell_of (j := 0) HS5.out.box rfl
        have r1 := cell_of (j := 1) HS5.out.box rfl
        have pi := HS5.out.cell (i := i) (by omega)
        have pj := HS5.out.cell (i := j) (by omega)
        have f1 := HS5.out.own.frozenAt i
        have f2 := HS5.out.own.frozenAt j
        go_upto_region 9 with fail
        go_still_tail 10, (by kernel_rfl)
        change wpList _ _ _ _ _ W5.drew
        refine nameG (w := W5.drew) fun W6 hW6 => ?_
        have HS6 := Lib.hid (HS5.out.next (W' := W6) (by rw [hW6.out]; exact Below.drew (Below.refl _ _)))
        have K6 := Lib.hid (show W6.heap[b8]? = some (.cells #[.int .i64 (i : Int), .int .i64 (j : Int)] 53 (0, 0)) by rw [hW6.out]; exact K8.out)
        clear hW6 HS5 K8 g0 g1 r0 r1 pi pj f1 f2
        have pi := HS6.out.cell (i := i) (by omega)
        have f1 := HS6.out.own.frozenAt i
        go_wp2_with fail
        go_roundw
        case rel => exact ⟨k + 1, by omega, rfl, Lib.hid (by
          rw [HFS.out, show playR q p ((i : Int), (j : Int)) o = p.set i (nthI p i + q.win) from by unfold playR addP; rw [if_pos HO1.out]; rfl]
          exact HS6.out.store _)⟩
        case measure => simp [intOf]; omega
      have d1 : (o == 1) = false := by simpa using ho1
      have HO1 := Lib.hid ho1
      clear ho1
      by_cases ho3 : o = 3
      · have d3 : (o == 3) = true := by simpa using ho3
        have HO3 := Lib.hid ho3
        clear ho3
        have g0 := cell_of (j := 0) K8.out rfl
        have g1 := cell_of (j := 1) K8.out rfl
        have r0 := cell_of (j := 0) HS5.out.box rfl
        have r1 := cell_of (j := 1) HS5.out.box rfl
        have pi := HS5.out.cell (i := i) (by omega)
        have pj := HS5.out.cell (i := j) (by omega)
        have f1 := HS5.out.own.frozenAt i
        have f2 := HS5.out.own.frozenAt j
        go_upto_region 11 with fail
        go_still_tail 10, (by kernel_rfl)
        change wpList _ _ _ _ _ W5.drew
        refine nameG (w := W5.drew) fun W6 hW6 => ?_
        have HS6 := Lib.hid (HS5.out.next (W' := W6) (by rw [hW6.out]; exact Below.drew (Below.refl _ _)))
        have K6 := Lib.hid (show W6.heap[b8]? = some (.cells #[.int .i64 (i : Int), .int .i64 (j : Int)] 53 (0, 0)) by rw [hW6.out]; exact K8.out)
        clear hW6 HS5 K8 g0 g1 r0 r1 pi pj f1 f2
        have pi := HS6.out.cell (i := j) (by omega)
        have f1 := HS6.out.own.frozenAt j
        go_wp2_with fail
        go_roundw
        case rel => exact ⟨k + 1, by omega, rfl, Lib.hid (by
          rw [HFS.out, show playR q p ((i : Int), (j : Int)) o = p.set j (nthI p j + q.win) from by unfold playR addP; rw [if_neg HO1.out, if_pos HO3.out]; rfl]
          exact HS6.out.store _)⟩
        case measure => simp [intOf]; omega
      have d3 : (o == 3) = false := by simpa using ho3
      have HO3 := Lib.hid ho3
      clear ho3
      have hij : i ≠ j := by omega
      have g0 := cell_of (j := 0) K8.out rfl
      have g1 := cell_of (j := 1) K8.out rfl
      have r0 := cell_of (j := 0) HS5.out.box rfl
      have r1 := cell_of (j := 1) HS5.out.box rfl
      have pi := HS5.out.cell (i := i) (by omega)
      have pj := HS5.out.cell (i := j) (by omega)
      have f1 := HS5.out.own.frozenAt i
      have f2 := HS5.out.own.frozenAt j
      go_upto_region 6 with fail
      go_still_tail 10, (by kernel_rfl)
      change wpList _ _ _ _ _ W5.drew
      refine nameG (w := W5.drew) fun W6 hW6 => ?_
      have HS6 := Lib.hid (HS5.out.next (W' := W6) (by rw [hW6.out]; exact Below.drew (Below.refl _ _)))
      have K6 := Lib.hid (show W6.heap[b8]? = some (.cells #[.int .i64 (i : Int), .int .i64 (j : Int)] 53 (0, 0)) by rw [hW6.out]; exact K8.out)
      clear hW6 HS5 K8 g0 g1 r0 r1 pi pj f1 f2
      have pi := HS6.out.cell (i := i) (by omega)
      have f1 := HS6.out.own.frozenAt i
      go_upto_region 7 with fail
      refine nameC fun W7 hW7 => ?_
      have HS7 := Lib.hid (show AbS w g n c2 #[.int .i64 q.win, .int .i64 q.draw, .slice cA n cc, .slice pA n pc, .slice (some ⟨eb, eo, none⟩) no oc, .int .i64 q.club, .int .i64 q.place] (p.set i (nthI p i + q.draw)) W7 by rw [hW7.out]; exact HS6.out.store _)
      have K7 := Lib.hid (show W7.heap[b8]? = some (.cells #[.int .i64 (i : Int), .int .i64 (j : Int)] 53 (0, 0)) by rw [hW7.out, heap_set_if, if_neg (by omega)]; exact K6.out)
      clear hW7 HS6 K6 pi f1
      have g0 := cell_of (j := 0) K7.out rfl
      have g1 := cell_of (j := 1) K7.out rfl
      have r0 := cell_of (j := 0) HS7.out.box rfl
      have r1 := cell_of (j := 1) HS7.out.box rfl
      have pi := HS7.out.cell (i := i) (by omega)
      have pj := HS7.out.cell (i := j) (by omega)
      have f1 := HS7.out.own.frozenAt i
      have f2 := HS7.out.own.frozenAt j
      have hnj : nthI (p.set i (nthI p i + q.draw)) j = nthI p j := by rw [nthI_set, if_neg (by omega)]
      rw [hnj] at pj
      go_still_tail 10, (by kernel_rfl)
      change wpList _ _ _ _ _ W7.drew
      refine nameG (w := W7.drew) fun W8 hW6 => ?_
      have HS6 := Lib.hid (HS7.out.next (W' := W8) (by rw [hW6.out]; exact Below.drew (Below.refl _ _)))
      clear hW6 HS7 K7 g0 g1 r0 r1 pi pj f1 f2
      have pj := HS6.out.cell (i := j) (by omega)
      have f1 := HS6.out.own.frozenAt j
      have HNJ := Lib.hid hnj
      clear hnj
      go_wp2_with fail
      go_roundw
      case rel => exact ⟨k + 1, by omega, rfl, Lib.hid (by
        rw [HFS.out, show playR q p ((i : Int), (j : Int)) o = (p.set i (nthI p i + q.draw)).set j (nthI p j + q.draw) from by
          unfold playR addP; rw [if_neg HO1.out, if_neg HO3.out]
          show (p.set i (nthI p i + q.draw)).set j (nthI (p.set i (nthI p i + q.draw)) j + q.draw) = _
          rw [HNJ.out]]
        exact HS6.out.store _)⟩
      case measure => simp [intOf]; omega
    · have hnl : ¬ (k : Int) < (no : Int) := by omega
      obtain rfl : k = no := by omega
      obtain ⟨p, hpp⟩ : ∃ p, p = finR q outs := ⟨_, rfl⟩
      rw [show finTo q (nthI outs) k = p from by rw [hpp, HNO.out]; rfl] at HS
      have hc0 := HV.out.size.c0
      have hcn := HV.out.size.cn
      obtain ⟨c, hcc⟩ : ∃ c : Nat, q.club = (c : Int) := ⟨q.club.toNat, by omega⟩
      have hcn2 : c < n := by rw [HN.out]; omega
      obtain ⟨y, hy⟩ : ∃ y, y = nthI p c := ⟨_, rfl⟩
      have HPP := Lib.hid hpp
      have HCC := Lib.hid hcc
      have HY := Lib.hid hy
      have hpl := HS.out.len
      have HPL := Lib.hid hpl
      have r5 := cell_of (j := 5) HS.out.box rfl
      have r5' : wr.cell? ⟨w.heap.size, 5, none⟩ = some (.int .i64 (c : Int)) := by rw [← hcc]; exact r5
      have py := HS.out.cell hcn2
      rw [← hy] at py
      have hc00 : (0 : Int) ≤ (c : Int) := by omega
      have hcn3 : (c : Int) < (n : Int) := by omega
      clear hpp hcc hy hpl hc0 hcn r5
      go_wp2_with fail
      clear py
      go_loop [4, 5, 82] (fun q4 q5 i => ∃ t : Nat, t ≤ n ∧ i = .int .i64 (t : Int) ∧ q4 = .int .i64 ((moreTo (c : Int) p t : Nat) : Int) ∧ q5 = .int .i64 ((manyTo (c : Int) p t : Nat) : Int)) (fun _ _ i => n - (intOf i).toNat)
      case atStart => exact ⟨0, Nat.zero_le _, rfl, rfl, rfl⟩
      case round =>
        obtain ⟨t, ht, rfl, rfl, rfl⟩ := hrel
        by_cases htn : t < n
        · have pt := HS.out.cell htn
          have h1 := moreTo_succ (c : Int) p t
          have h2 := manyTo_succ (c : Int) p t
          have b1 := moreTo_le (c : Int) p t
          have b2 := manyTo_le (c : Int) p t
          rw [show (c : Int).toNat = c from Int.toNat_natCast c, ← HY.out] at h1 h2
          obtain ⟨z, hz⟩ : ∃ z, z = nthI p t := ⟨_, rfl⟩
          rw [← hz] at pt h1 h2
          obtain ⟨A, hA⟩ : ∃ A, A = moreTo (c : Int) p t := ⟨_, rfl⟩
          obtain ⟨B, hB⟩ : ∃ B, B = manyTo (c : Int) p t := ⟨_, rfl⟩
          rw [← hA] at h1 b1 ⊢
          rw [← hB] at h2 b2 ⊢
          clear hz hA hB
          have ht0 : (0 : Int) ≤ (t : Int) := by omega
          have ht1 : (t : Int) < (n : Int) := by omega
          have hA1 : (A : Int) ≤ 24 := by omega
          have hB1 : (B : Int) ≤ 24 := by omega
          have hn25 : (n : Int) ≤ 24 := by omega
          by_cases htc : t = c
          · have e1 : ((t : Int) != (c : Int)) = false := by rw [bne_eq_false_iff_eq]; omega
            have H1 := Lib.hid (show moreTo (c : Int) p (t + 1) = A by rw [h1, if_neg (by omega)]; rfl)
            have H2 := Lib.hid (show manyTo (c : Int) p (t + 1) = B by rw [h2, if_neg (by omega)]; rfl)
            clear h1 h2 htc b1 b2
            go_wp2_with fail
            go_round
            case rel => exact ⟨t + 1, by omega, by go_num, by rw [H1.out], by rw [H2.out]⟩
            case measure => simp [intOf]; omega
          have e1 : ((t : Int) != (c : Int)) = true := by rw [bne_iff_ne]; omega
          by_cases hyz : y < z
          · have d1 : decide (y < z) = true := decide_eq_true hyz
            have d2 : decide (y ≤ z) = true := decide_eq_true (by omega)
            have H1 := Lib.hid (show moreTo (c : Int) p (t + 1) = A + 1 by rw [h1, if_pos (by omega)])
            have H2 := Lib.hid (show manyTo (c : Int) p (t + 1) = B + 1 by rw [h2, if_pos (by omega)])
            clear h1 h2 htc b1 b2
            go_wp2_with fail
            go_round
            case rel => exact ⟨t + 1, by omega, by go_num, by rw [H1.out]; rfl, by rw [H2.out]; rfl⟩
            case measure => simp [intOf]; omega
          have d1 : decide (y < z) = false := decide_eq_false hyz
          by_cases hyz2 : y ≤ z
          · have d2 : decide (y ≤ z) = true := decide_eq_true hyz2
            have H1 := Lib.hid (show moreTo (c : Int) p (t + 1) = A by rw [h1, if_neg (by omega)]; rfl)
            have H2 := Lib.hid (show manyTo (c : Int) p (t + 1) = B + 1 by rw [h2, if_pos (by omega)])
            clear h1 h2 htc b1 b2
            go_wp2_with fail
            go_round
            case rel => exact ⟨t + 1, by omega, by go_num, by rw [H1.out], by rw [H2.out]; rfl⟩
            case measure => simp [intOf]; omega
          · have d2 : decide (y ≤ z) = false := decide_eq_false hyz2
            have H1 := Lib.hid (show moreTo (c : Int) p (t + 1) = A by rw [h1, if_neg (by omega)]; rfl)
            have H2 := Lib.hid (show manyTo (c : Int) p (t + 1) = B by rw [h2, if_neg (by omega)]; rfl)
            clear h1 h2 htc b1 b2
            go_wp2_with fail
            go_round
            case rel => exact ⟨t + 1, by omega, by go_num, by rw [H1.out], by rw [H2.out]⟩
            case measure => simp [intOf]; omega
        · have hnl2 : ¬ (t : Int) < (n : Int) := by omega
          obtain rfl : t = n := by omega
          go_wp2_with fail
          go_ret2
          refine ⟨?_, HS.out.below⟩
          rw [← HPP.out]
          unfold moreR manyR
          rw [HPL.out, HCC.out]
          rfl
end Go.Proofs.Ythlnfjbedehjdaa
/- Reached and Missed. -/
namespace Go.Proofs.Ythlnfjbedehjdaa
open Go.RowKit Go.Shelf

set_option maxRecDepth 20000 in
set_option maxHeartbeats 4000000 in
theorem reached_any (w : World) (M M' : Nat → Prop) (v u : Value) (q : RaceD) (outs : List Int) (h : IsRace w M v q) (h' : IsInts w M' u outs) (hlen : outs.length ≤ 140737488355328) : Calls Try.prog 11 #[v, u] w (RetE (reachedR q outs) w) := by
  obtain ⟨cA, cc, pA, pc, oA, oc, rfl, hc, hp, ho⟩ := h.parts
  obtain ⟨uA, uc, rfl, hu1, hu2, hu3⟩ := id h'
  have HR := Lib.hid h
  have HU := Lib.hid h'
  clear hc hp ho h h' hu1 hu2 hu3
  have CC := fun (W : World) (hB : Below w.heap.size w W) => Lib.hid (compl_any W M M' _ _ q outs (HR.out.below hB) (IsSl.below HU.out hB) hlen)
  obtain ⟨z, hz⟩ : ∃ z, z = reachedR q outs := ⟨_, rfl⟩
  have HZ := Lib.hid hz
  rw [← hz]
  clear hz hlen
  go_enter Try.func11, Try.ntmps11
  go_wp2_with fail
  refine nameW fun W1 hW1 => ?_
  have hb1 : Below w.heap.size w W1 := by rw [hW1.out]; exact (Below.refl _ _).alloc (Nat.le_refl _) _
  have k0 : W1.heap[w.heap.size]? = some (.cells #[.int .i64 q.win, .int .i64 q.draw, .slice cA q.clubs.length cc, .slice pA q.points.length pc, .slice oA q.opn.length oc, .int .i64 q.club, .int .i64 q.place] 25 (0, 0)) := by rw [hW1.out]; exact heap_alloc_new _ _
  have K0 := Lib.hid k0
  have HB1 := Lib.hid hb1
  clear hW1 hb1 k0
  refine (CC W1 HB1.out).out.mono ?_
  rintro e W2 ⟨rfl, hb⟩
  replace K0 := Lib.hid ((hb.block _ (lt_heap K0.out)).trans K0.out)
  replace HB1 := Lib.hid (HB1.out.trans (hb.mono HB1.out.size))
  clear hb CC
  by_cases hv : validB q = true
  · by_cases hco : complB q outs = true
    · have hcr : complR q outs = 0 := by unfold complR; rw [if_pos hv, if_pos hco]
      rw [hcr, hv, show (if true = true then (.agg #[.int .i64 q.win, .int .i64 q.draw, .slice cA q.clubs.length cc, .slice pA q.points.length pc, .slice oA q.opn.length oc, .int .i64 q.club, .int .i64 q.place] : Value) else zeroRV) = .agg #[.int .i64 q.win, .int .i64 q.draw, .slice cA q.clubs.length cc, .slice pA q.points.length pc, .slice oA q.opn.length oc, .int .i64 q.club, .int .i64 q.place] from rfl]
      have hzz : z = if q.place ≤ moreR q (finR q outs) then 290 else 0 := by rw [HZ.out]; unfold reachedR; rw [if_pos hv, if_pos hco]
      have hol : outs.length = q.opn.length := by unfold complB at hco; simp only [Bool.and_eq_true, decide_eq_true_eq] at hco; exact hco.1
      have HVV := Lib.hid (validB_iff.1 hv)
      have HOL := Lib.hid hol
      have HZZ := Lib.hid hzz
      clear hv hco hcr hol hzz
      go_wp2_with fail
      refine nameW fun W3 hW3 => ?_
      have hb3 : Below w.heap.size w W3 := by rw [hW3.out]; exact HB1.out.alloc HB1.out.size _
      have k3 : W3.heap[w.heap.size]? = some (.cells #[.int .i64 q.win, .int .i64 q.draw, .slice cA q.clubs.length cc, .slice pA q.points.length pc, .slice oA q.opn.length oc, .int .i64 q.club, .int .i64 q.place] 25 (0, 0)) := by
        rw [hW3.out, heap_alloc_if, if_neg (by have := lt_heap K0.out; omega)]; exact K0.out
      refine (above_any W3 M M' _ _ q outs (HR.out.below hb3) (IsSl.below HU.out hb3) HVV.out HOL.out).mono ?_
      rintro e W4 ⟨rfl, hb⟩
      have HB4 := Lib.hid (hb3.trans (hb.mono hb3.size))
      have k4 := (hb.block _ (lt_heap k3)).trans k3
      have r6 := cell_of (j := 6) k4 rfl
      obtain ⟨more, hmo⟩ : ∃ x, x = moreR q (finR q outs) := ⟨_, rfl⟩
      obtain ⟨many, hma⟩ : ∃ x, x = manyR q (finR q outs) := ⟨_, rfl⟩
      rw [← hmo, ← hma]
      have hzz := HZZ.out
      (first | rw [← hmo] at hzz | rw [← hma] at hzz)
      clear hW3 hb3 k3 k4 hb hmo hma
      by_cases ht : q.place ≤ (more : Int)
      · rw [if_pos ht] at hzz
        have d1 : decide (q.place ≤ (more : Int)) = true := decide_eq_true ht
        have HQ := Lib.hid hzz
        clear hzz ht
        go_wp2_with fail
        go_ret
        exact ⟨ret_int HQ.out.symm, HB4.out⟩
      · rw [if_neg ht] at hzz
        have d1 : decide (q.place ≤ (more : Int)) = false := decide_eq_false ht
        have HQ := Lib.hid hzz
        clear hzz ht
        go_wp2_with fail
        go_ret
        exact ⟨ret_int HQ.out.symm, HB4.out⟩
    · have hcf : complB q outs = false := by simpa using hco
      have hcr : complR q outs = 1 := by unfold complR; rw [if_pos hv, if_neg hco]
      have HQ := Lib.hid (show z = 1 by rw [HZ.out]; unfold reachedR; rw [if_pos hv, if_neg hco])
      rw [hcr, hv, show (if true = true then (.agg #[.int .i64 q.win, .int .i64 q.draw, .slice cA q.clubs.length cc, .slice pA q.points.length pc, .slice oA q.opn.length oc, .int .i64 q.club, .int .i64 q.place] : Value) else zeroRV) = .agg #[.int .i64 q.win, .int .i64 q.draw, .slice cA q.clubs.length cc, .slice pA q.points.length pc, .slice oA q.opn.length oc, .int .i64 q.club, .int .i64 q.place] from rfl]
      clear hv hco hcf hcr
      go_wp2_with fail
      go_ret
      exact ⟨ret_int HQ.out.symm, HB1.out.alloc HB1.out.size _⟩
  · have hvf : validB q = false := by simpa using hv
    have hcr : complR q outs = 280 := by unfold complR; rw [if_neg hv]
    have HQ := Lib.hid (show z = 280 by rw [HZ.out]; unfold reachedR; rw [if_neg hv])
    rw [hcr, hvf, show (if false = true then (.agg #[.int .i64 q.win, .int .i64 q.draw, .slice cA q.clubs.length cc, .slice pA q.points.length pc, .slice oA q.opn.length oc, .int .i64 q.club, .int .i64 q.place] : Value) else zeroRV) = .agg #[.int .i64 0, .int .i64 0, .slice none 0 0, .slice none 0 0, .slice none 0 0, .int .i64 0, .int .i64 0] from rfl]
    clear hv hvf hcr
    go_wp2_with fail
    go_ret
    exact ⟨ret_int HQ.out.symm, HB1.out.alloc HB1.out.size _⟩
set_option maxRecDepth 20000 in
set_option maxHeartbeats 4000000 in
theorem missed_any (w : World) (M M' : Nat → Prop) (v u : Value) (q : RaceD) (outs : List Int) (h : IsRace w M v q) (h' : IsInts w M' u outs) (hlen : outs.length ≤ 140737488355328) : Calls Try.prog 13 #[v, u] w (RetE (missedR q outs) w) := by
  obtain ⟨cA, cc, pA, pc, oA, oc, rfl, hc, hp, ho⟩ := h.parts
  obtain ⟨uA, uc, rfl, hu1, hu2, hu3⟩ := id h'
  have HR := Lib.hid h
  have HU := Lib.hid h'
  clear hc hp ho h h' hu1 hu2 hu3
  have CC := fun (W : World) (hB : Below w.heap.size w W) => Lib.hid (compl_any W M M' _ _ q outs (HR.out.below hB) (IsSl.below HU.out hB) hlen)
  obtain ⟨z, hz⟩ : ∃ z, z = missedR q outs := ⟨_, rfl⟩
  have HZ := Lib.hid hz
  rw [← hz]
  clear hz hlen
  go_enter Try.func13, Try.ntmps13
  go_wp2_with fail
  refine nameW fun W1 hW1 => ?_
  have hb1 : Below w.heap.size w W1 := by rw [hW1.out]; exact (Below.refl _ _).alloc (Nat.le_refl _) _
  have k0 : W1.heap[w.heap.size]? = some (.cells #[.int .i64 q.win, .int .i64 q.draw, .slice cA q.clubs.length cc, .slice pA q.points.length pc, .slice oA q.opn.length oc, .int .i64 q.club, .int .i64 q.place] 25 (0, 0)) := by rw [hW1.out]; exact heap_alloc_new _ _
  have K0 := Lib.hid k0
  have HB1 := Lib.hid hb1
  clear hW1 hb1 k0
  refine (CC W1 HB1.out).out.mono ?_
  rintro e W2 ⟨rfl, hb⟩
  replace K0 := Lib.hid ((hb.block _ (lt_heap K0.out)).trans K0.out)
  replace HB1 := Lib.hid (HB1.out.trans (hb.mono HB1.out.size))
  clear hb CC
  by_cases hv : validB q = true
  · by_cases hco : complB q outs = true
    · have hcr : complR q outs = 0 := by unfold complR; rw [if_pos hv, if_pos hco]
      rw [hcr, hv, show (if true = true then (.agg #[.int .i64 q.win, .int .i64 q.draw, .slice cA q.clubs.length cc, .slice pA q.points.length pc, .slice oA q.opn.length oc, .int .i64 q.club, .int .i64 q.place] : Value) else zeroRV) = .agg #[.int .i64 q.win, .int .i64 q.draw, .slice cA q.clubs.length cc, .slice pA q.points.length pc, .slice oA q.opn.length oc, .int .i64 q.club, .int .i64 q.place] from rfl]
      have hzz : z = if manyR q (finR q outs) < q.place then 290 else 0 := by rw [HZ.out]; unfold missedR; rw [if_pos hv, if_pos hco]
      have hol : outs.length = q.opn.length := by unfold complB at hco; simp only [Bool.and_eq_true, decide_eq_true_eq] at hco; exact hco.1
      have HVV := Lib.hid (validB_iff.1 hv)
      have HOL := Lib.hid hol
      have HZZ := Lib.hid hzz
      clear hv hco hcr hol hzz
      go_wp2_with fail
      refine nameW fun W3 hW3 => ?_
      have hb3 : Below w.heap.size w W3 := by rw [hW3.out]; exact HB1.out.alloc HB1.out.size _
      have k3 : W3.heap[w.heap.size]? = some (.cells #[.int .i64 q.win, .int .i64 q.draw, .slice cA q.clubs.length cc, .slice pA q.points.length pc, .slice oA q.opn.length oc, .int .i64 q.club, .int .i64 q.place] 25 (0, 0)) := by
        rw [hW3.out, heap_alloc_if, if_neg (by have := lt_heap K0.out; omega)]; exact K0.out
      refine (above_any W3 M M' _ _ q outs (HR.out.below hb3) (IsSl.below HU.out hb3) HVV.out HOL.out).mono ?_
      rintro e W4 ⟨rfl, hb⟩
      have HB4 := Lib.hid (hb3.trans (hb.mono hb3.size))
      have k4 := (hb.block _ (lt_heap k3)).trans k3
      have r6 := cell_of (j := 6) k4 rfl
      obtain ⟨more, hmo⟩ : ∃ x, x = moreR q (finR q outs) := ⟨_, rfl⟩
      obtain ⟨many, hma⟩ : ∃ x, x = manyR q (finR q outs) := ⟨_, rfl⟩
      rw [← hmo, ← hma]
      have hzz := HZZ.out
      (first | rw [← hmo] at hzz | rw [← hma] at hzz)
      clear hW3 hb3 k3 k4 hb hmo hma
      by_cases ht : (many : Int) < q.place
      · rw [if_pos ht] at hzz
        have d1 : decide ((many : Int) < q.place) = true := decide_eq_true ht
        have HQ := Lib.hid hzz
        clear hzz ht
        go_wp2_with fail
        go_ret
        exact ⟨ret_int HQ.out.symm, HB4.out⟩
      · rw [if_neg ht] at hzz
        have d1 : decide ((many : Int) < q.place) = false := decide_eq_false ht
        have HQ := Lib.hid hzz
        clear hzz ht
        go_wp2_with fail
        go_ret
        exact ⟨ret_int HQ.out.symm, HB4.out⟩
    · have hcf : complB q outs = false := by simpa using hco
      have hcr : complR q outs = 1 := by unfold complR; rw [if_pos hv, if_neg hco]
      have HQ := Lib.hid (show z = 1 by rw [HZ.out]; unfold missedR; rw [if_pos hv, if_neg hco])
      rw [hcr, hv, show (if true = true then (.agg #[.int .i64 q.win, .int .i64 q.draw, .slice cA q.clubs.length cc, .slice pA q.points.length pc, .slice oA q.opn.length oc, .int .i64 q.club, .int .i64 q.place] : Value) else zeroRV) = .agg #[.int .i64 q.win, .int .i64 q.draw, .slice cA q.clubs.length cc, .slice pA q.points.length pc, .slice oA q.opn.length oc, .int .i64 q.club, .int .i64 q.place] from rfl]
      clear hv hco hcf hcr
      go_wp2_with fail
      go_ret
      exact ⟨ret_int HQ.out.symm, HB1.out.alloc HB1.out.size _⟩
  · have hvf : validB q = false := by simpa using hv
    have hcr : complR q outs = 280 := by unfold complR; rw [if_neg hv]
    have HQ := Lib.hid (show z = 280 by rw [HZ.out]; unfold missedR; rw [if_neg hv])
    rw [hcr, hvf, show (if false = true then (.agg #[.int .i64 q.win, .int .i64 q.draw, .slice cA q.clubs.length cc, .slice pA q.points.length pc, .slice oA q.opn.length oc, .int .i64 q.club, .int .i64 q.place] : Value) else zeroRV) = .agg #[.int .i64 0, .int .i64 0, .slice none 0 0, .slice none 0 0, .slice none 0 0, .int .i64 0, .int .i64 0] from rfl]
    clear hv hvf hcr
    go_wp2_with fail
    go_ret
    exact ⟨ret_int HQ.out.symm, HB1.out.alloc HB1.out.size _⟩
end Go.Proofs.Ythlnfjbedehjdaa
/- Small functions of a race. -/
namespace Go.Proofs.Ythlnfjbedehjdaa
open Go.RowKit Go.Shelf

def halvesB (q : RaceD) : Bool := decide (0 < q.draw) && decide (q.win = 2 * q.draw)
theorem halves_any (w : World) (M : Nat → Prop) (v : Value) (q : RaceD) (h : IsRace w M v q) (h1 : 0 ≤ q.draw ∧ q.draw ≤ 999) : Calls Try.prog 50 #[v] w fun e w' => e = .returned (.bool (halvesB q)) ∧ Below w.heap.size w w' := by
  obtain ⟨cA, cc, pA, pc, oA, oc, rfl, -⟩ := h.parts
  clear h
  unfold halvesB
  obtain ⟨d, hd⟩ : ∃ d, d = q.draw := ⟨_, rfl⟩
  obtain ⟨m, hm⟩ : ∃ m, m = q.win := ⟨_, rfl⟩
  rw [← hd, ← hm]
  rw [← hd] at h1
  clear hd hm
  obtain ⟨h0, h9⟩ := h1
  go_enter Try.func50, Try.ntmps50
  by_cases t : 0 < d
  · have d1 : decide (0 < d) = true := decide_eq_true t
    by_cases t2 : m = 2 * d
    · have d2 : (m == 2 * d) = true := by simpa using t2
      have e2 : decide (m = 2 * d) = true := decide_eq_true t2
      have E := Lib.hid (And.intro d1 e2)
      clear t2 e2
      go_wp2_with fail
      go_ret
      exact ⟨by first | rfl | (rw [E.out.1, E.out.2]; rfl) | (rw [E.out.2]; rfl), (Below.refl _ _).alloc (Nat.le_refl _) _⟩
    · have d2 : (m == 2 * d) = false := by simpa using t2
      have e2 : decide (m = 2 * d) = false := decide_eq_false t2
      have E := Lib.hid (And.intro d1 e2)
      clear t2 e2
      go_wp2_with fail
      go_ret
      exact ⟨by first | rfl | (rw [E.out.1, E.out.2]; rfl) | (rw [E.out.2]; rfl), (Below.refl _ _).alloc (Nat.le_refl _) _⟩
  · have d1 : decide (0 < d) = false := decide_eq_false t
    have E := Lib.hid d1
    go_wp2_with fail
    go_ret
    exact ⟨by first | rfl | (rw [E.out]; rfl), (Below.refl _ _).alloc (Nat.le_refl _) _⟩
def sizeK (q : RaceD) (certain : Bool) : Int := if certain then q.place else q.place - 1
theorem size_any (w : World) (M : Nat → Prop) (v : Value) (q : RaceD) (h : IsRace w M v q) (b : Bool) (h1 : 1 ≤ q.place ∧ q.place ≤ 24) : Calls Try.prog 52 #[v, .bool b] w fun e w' => e = .returned (.int .i64 (sizeK q b)) ∧ Below w.heap.size w w' := by
  obtain ⟨cA, cc, pA, pc, oA, oc, rfl, -⟩ := h.parts
  clear h
  unfold sizeK
  obtain ⟨p, hp⟩ : ∃ p, p = q.place := ⟨_, rfl⟩
  rw [← hp]
  rw [← hp] at h1
  clear hp
  obtain ⟨h0, h9⟩ := h1
  go_enter Try.func52, Try.ntmps52
  cases b
  · go_wp2_with fail
    go_ret
    exact ⟨rfl, (Below.refl _ _).alloc (Nat.le_refl _) _⟩
  · go_wp2_with fail
    go_ret
    exact ⟨rfl, (Below.refl _ _).alloc (Nat.le_refl _) _⟩
end Go.Proofs.Ythlnfjbedehjdaa
/- floor. -/
namespace Go.Proofs.Ythlnfjbedehjdaa
open Go.RowKit Go.Shelf

theorem tdiv_floor {a b : Int} (hb : 0 < b) : (if a.tmod b < 0 then a.tdiv b - 1 else a.tdiv b) = a / b := by
  have h1 := Int.tmod_add_mul_tdiv a b
  have h2 := Int.emod_add_mul_ediv a b
  have h3 := Int.emod_nonneg a (show b ≠ 0 by omega)
  have h4 := Int.emod_lt_of_pos a hb
  have h5 : -b < a.tmod b ∧ a.tmod b < b := by
    rcases Int.lt_or_le a 0 with h | h
    · have := Int.tmod_eq_emod_of_nonneg (a := -a) (b := b) (by omega)
      rw [Int.neg_tmod] at this
      have h6 := Int.emod_nonneg (-a) (show b ≠ 0 by omega)
      have h7 := Int.emod_lt_of_pos (-a) hb
      omega
    · have := Int.tmod_eq_emod_of_nonneg (a := a) (b := b) h
      omega
  split
  · rename_i h
    have h6 : b * (a.tdiv b - 1 - a / b) = a % b - a.tmod b - b := by rw [Int.mul_sub, Int.mul_sub]; omega
    have h7 : a.tdiv b - 1 - a / b = 0 := by
      rcases Int.lt_trichotomy (a.tdiv b - 1 - a / b) 0 with h8 | h8 | h8
      · have := Int.mul_le_mul_of_nonneg_left (show a.tdiv b - 1 - a / b ≤ -1 by omega) (show 0 ≤ b by omega)
        omega
      · exact h8
      · have := Int.mul_le_mul_of_nonneg_left (show (1 : Int) ≤ a.tdiv b - 1 - a / b by omega) (show 0 ≤ b by omega)
        omega
    omega
  · rename_i h
    have h6 : b * (a.tdiv b - a / b) = a % b - a.tmod b := by rw [Int.mul_sub]; omega
    have h7 : a.tdiv b - a / b = 0 := by
      rcases Int.lt_trichotomy (a.tdiv b - a / b) 0 with h8 | h8 | h8
      · have := Int.mul_le_mul_of_nonneg_left (show a.tdiv b - a / b ≤ -1 by omega) (show 0 ≤ b by omega)
        omega
      · exact h8
      · have := Int.mul_le_mul_of_nonneg_left (show (1 : Int) ≤ a.tdiv b - a / b by omega) (show 0 ≤ b by omega)
        omega
    omega
theorem floor_any (w : World) (a b : Int) (hb : 1 ≤ b ∧ b ≤ 999) (ha : -1000000000000 ≤ a ∧ a ≤ 1000000000000) : Calls Try.prog 54 #[.int .i64 a, .int .i64 b] w fun e w' => e = .returned (.int .i64 (a / b)) ∧ w = w' := by
  have hf := tdiv_floor (a := a) (b := b) (by omega)
  have h1 := Int.tmod_add_mul_tdiv a b
  obtain ⟨hb1, hb2⟩ := hb
  obtain ⟨ha1, ha2⟩ := ha
  have hq : -1000000000001 ≤ a / b ∧ a / b ≤ 1000000000001 := by
    constructor
    · exact Int.le_ediv_of_mul_le (by omega) (by omega)
    · rcases Int.lt_or_le a 0 with h | h
      · have := Int.ediv_neg_of_neg_of_pos h (show 0 < b by omega); omega
      · have := Int.ediv_le_self b h; omega
  have HF := Lib.hid hf
  clear hf h1
  by_cases t : a.tmod b < 0
  · have hd : a.tdiv b - 1 = a / b := by have := HF.out; rw [if_pos t] at this; exact this
    have hw : wrap64 (a.tdiv b - 1) = a / b := by rw [hd]; exact IntWalk.wrap64_in _ (by omega)
    have HW := Lib.hid hw
    clear hd hw
    go_enter Try.func54, Try.ntmps54
    go_wp2_with fail
    go_ret
    exact ⟨ret_int HW.out, rfl⟩
  · have hd : a.tdiv b = a / b := by have := HF.out; rw [if_neg t] at this; exact this
    have HW := Lib.hid hd
    clear hd
    go_enter Try.func54, Try.ntmps54
    go_wp2_with fail
    go_ret
    exact ⟨ret_int HW.out, rfl⟩
end Go.Proofs.Ythlnfjbedehjdaa
/- isSet. -/
namespace Go.Proofs.Ythlnfjbedehjdaa
open Go.RowKit Go.Shelf

def SetOk (q : RaceD) (l : List Int) (i : Nat) : Prop := 0 ≤ nthI l i ∧ nthI l i < q.clubs.length ∧ nthI l i ≠ q.club ∧ (0 < i → nthI l (i - 1) < nthI l i)
instance (q : RaceD) (l : List Int) (i : Nat) : Decidable (SetOk q l i) := by unfold SetOk; infer_instance
def setB (q : RaceD) (l : List Int) : Bool := (List.range l.length).all fun k => decide (SetOk q l k)
set_option maxRecDepth 20000 in
set_option maxHeartbeats 4000000 in
theorem isSet_any (w : World) (M M' : Nat → Prop) (v u : Value) (q : RaceD) (l : List Int) (h : IsRace w M v q) (h' : IsInts w M' u l) (hlen : l.length ≤ 140737488355328) : Calls Try.prog 51 #[v, u] w fun e w' => e = .returned (.bool (setB q l)) ∧ Below w.heap.size w w' := by
  obtain ⟨cA, cc, pA, pc, oA, oc, rfl, -⟩ := h.parts
  obtain ⟨uA, uc, rfl, -⟩ := id h'
  have HU := Lib.hid h'
  clear h h'
  obtain ⟨n, hn⟩ : ∃ n, n = q.clubs.length := ⟨_, rfl⟩
  obtain ⟨m, hm⟩ : ∃ m, m = l.length := ⟨_, rfl⟩
  obtain ⟨c, hc⟩ : ∃ c, c = q.club := ⟨_, rfl⟩
  have HOKI := fun k => Lib.hid (show SetOk q l k ↔ (0 ≤ nthI l k ∧ nthI l k < n ∧ nthI l k ≠ c ∧ (0 < k → nthI l (k - 1) < nthI l k)) by rw [hn, hc]; exact Iff.rfl)
  have HB := Lib.hid (show setB q l = (List.range m).all fun k => decide (SetOk q l k) by rw [hm]; rfl)
  rw [← hn, ← hm, ← hc]
  rw [← hm] at hlen
  have HM := Lib.hid hm
  clear hn hm hc
  obtain ⟨z, hz⟩ : ∃ z, z = setB q l := ⟨_, rfl⟩
  rw [← hz] at HB ⊢
  clear hz
  go_enter Try.func51, Try.ntmps51
  go_wp2_with fail
  refine nameC fun W1 hW1 => ?_
  have hb1 : Below w.heap.size w W1 := by rw [hW1.out]; exact (Below.refl _ _).alloc (Nat.le_refl _) _
  have k0 : W1.heap[w.heap.size]? = some (.cells #[.int .i64 q.win, .int .i64 q.draw, .slice cA n cc, .slice pA q.points.length pc, .slice oA q.opn.length oc, .int .i64 c, .int .i64 q.place] 55 (0, 0)) := by rw [hW1.out]; exact heap_alloc_new _ _
  have r2 := cell_of (j := 2) k0 rfl
  have r5 := cell_of (j := 5) k0 rfl
  have HB1 := Lib.hid hb1
  clear hW1 hb1 k0
  go_loop [9] (fun i => ∃ k : Nat, k ≤ m ∧ i = .int .i64 (k : Int) ∧ Hid (∀ j, j < k → SetOk q l j)) (fun i => m - (intOf i).toNat)
  case atStart => exact ⟨0, Nat.zero_le _, rfl, Lib.hid fun j hj => absurd hj (by omega)⟩
  case round =>
    obtain ⟨k, hk, rfl, HT⟩ := hrel
    by_cases hlt : k < m
    case neg =>
      have hnl : ¬ (k : Int) < (m : Int) := by omega
      obtain rfl : k = m := by omega
      have HQ := Lib.hid (show z = true by rw [HB.out, List.all_eq_true]; exact fun j hj => decide_eq_true (HT.out j (List.mem_range.1 hj)))
      go_wp2_with fail
      go_ret
      exact ⟨ret_bool HQ.out.symm, HB1.out⟩
    obtain ⟨ub, uo, rfl, hub, hck⟩ := HU.out.at_ HB1.out (show k < l.length by rw [← HM.out]; exact hlt)
    have hy : 0 < k → W1.cell? ⟨ub, uo + (k - 1), none⟩ = some (.int .i64 (nthI l (k - 1))) := fun h0 => by
      obtain ⟨cb', co', e, -, hck'⟩ := HU.out.at_ HB1.out (show k - 1 < l.length by rw [← HM.out]; omega)
      simp only [Option.some.injEq, Addr.mk.injEq, and_true] at e
      rw [e.1, e.2]; exact hck'
    have HY := Lib.hid hy
    have HKI := HOKI k
    have hbad : ¬ SetOk q l k → z = false := fun hn => by rw [HB.out, List.all_eq_false]; exact ⟨k, List.mem_range.2 hlt, by simpa using hn⟩
    have HBAD := Lib.hid hbad
    obtain ⟨x, hx⟩ : ∃ x, x = nthI l k := ⟨_, rfl⟩
    obtain ⟨y, hy'⟩ : ∃ y, y = nthI l (k - 1) := ⟨_, rfl⟩
    rw [← hx] at hck HKI
    rw [← hy'] at HKI HY
    have hk0 : (0 : Int) ≤ (k : Int) := by omega
    have hk1 : (k : Int) < (m : Int) := by omega
    have hm9 : (m : Int) ≤ 140737488355328 := by omega
    clear hy hx hy' hbad HOKI
    by_cases hk9 : k = 0
    · skip
      have dk : decide ((0 : Int) < (k : Int)) = false := by rw [decide_eq_false_iff_not]; omega
      have dk2 : decide (0 < k) = false := by rw [decide_eq_false_iff_not]; omega
      have HK9 := Lib.hid hk9
      clear hk9
      by_cases t0 : x < 0
      · skip
        have HQ := Lib.hid (HBAD.out (by rw [HKI.out]; have := HK9.out; omega))
        have dt0 : decide (x < 0) = true := by rw [decide_eq_true_eq]; omega
        clear t0
        go_wp2_with fail
        go_ret
        exact ⟨ret_bool HQ.out.symm, HB1.out⟩
      have dt0 : decide (x < 0) = false := by rw [decide_eq_false_iff_not]; omega
      by_cases t1 : (n : Int) ≤ x
      · skip
        have HQ := Lib.hid (HBAD.out (by rw [HKI.out]; have := HK9.out; omega))
        have dt1 : decide ((n : Int) ≤ x) = true := by rw [decide_eq_true_eq]; omega
        clear t0 t1
        go_wp2_with fail
        go_ret
        exact ⟨ret_bool HQ.out.symm, HB1.out⟩
      have dt1 : decide ((n : Int) ≤ x) = false := by rw [decide_eq_false_iff_not]; omega
      by_cases t2 : x = c
      · skip
        have HQ := Lib.hid (HBAD.out (by rw [HKI.out]; have := HK9.out; omega))
        have dt2 : (x == c) = true := by simpa using t2
        clear t0 t1 t2
        go_wp2_with fail
        go_ret
        exact ⟨ret_bool HQ.out.symm, HB1.out⟩
      have dt2 : (x == c) = false := by simpa using t2
      have hs : SetOk q l (k) := by rw [HKI.out]; have := HK9.out; omega
      have HT2 := Lib.hid (show ∀ j', j' < k + 1 → SetOk q l j' from fun j' hj => by rcases Nat.lt_or_ge j' (k) with h | h; exact HT.out j' h; rw [show j' = k by omega]; exact hs)
      clear hs t0 t1 t2
      go_wp2_with fail
      go_round
      case rel => exact ⟨k + 1, by omega, by go_num, HT2⟩
      case measure => simp [intOf]; omega
    obtain ⟨j, rfl⟩ : ∃ j, k = j + 1 := ⟨k - 1, by omega⟩
    have hyc : W1.cell? ⟨ub, uo + j, none⟩ = some (.int .i64 y) := HY.out (by omega)
    have dk : decide ((0 : Int) < (j : Int) + 1) = true := by rw [decide_eq_true_eq]; omega
    have hj0 : (0 : Int) ≤ (j : Int) := by omega
    have hj1 : (j : Int) < (m : Int) := by omega
    have HK9 := Lib.hid hk9
    clear hk9
    by_cases t0 : x < 0
    · skip
      have HQ := Lib.hid (HBAD.out (by rw [HKI.out]; have := HK9.out; omega))
      have dt0 : decide (x < 0) = true := by rw [decide_eq_true_eq]; omega
      clear t0
      go_wp2_with fail
      go_ret
      exact ⟨ret_bool HQ.out.symm, HB1.out⟩
    have dt0 : decide (x < 0) = false := by rw [decide_eq_false_iff_not]; omega
    by_cases t1 : (n : Int) ≤ x
    · skip
      have HQ := Lib.hid (HBAD.out (by rw [HKI.out]; have := HK9.out; omega))
      have dt1 : decide ((n : Int) ≤ x) = true := by rw [decide_eq_true_eq]; omega
      clear t0 t1
      go_wp2_with fail
      go_ret
      exact ⟨ret_bool HQ.out.symm, HB1.out⟩
    have dt1 : decide ((n : Int) ≤ x) = false := by rw [decide_eq_false_iff_not]; omega
    by_cases t2 : x = c
    · skip
      have HQ := Lib.hid (HBAD.out (by rw [HKI.out]; have := HK9.out; omega))
      have dt2 : (x == c) = true := by simpa using t2
      clear t0 t1 t2
      go_wp2_with fail
      go_ret
      exact ⟨ret_bool HQ.out.symm, HB1.out⟩
    have dt2 : (x == c) = false := by simpa using t2
    by_cases t3 : x ≤ y
    · skip
      have HQ := Lib.hid (HBAD.out (by rw [HKI.out]; have := HK9.out; omega))
      have dt3 : decide (x ≤ y) = true := by rw [decide_eq_true_eq]; omega
      clear t0 t1 t2 t3
      go_wp2_with fail
      go_ret
      exact ⟨ret_bool HQ.out.symm, HB1.out⟩
    have dt3 : decide (x ≤ y) = false := by rw [decide_eq_false_iff_not]; omega
    have hs : SetOk q l (j + 1) := by rw [HKI.out]; have := HK9.out; omega
    have HT2 := Lib.hid (show ∀ j', j' < j + 1 + 1 → SetOk q l j' from fun j' hj => by rcases Nat.lt_or_ge j' (j + 1) with h | h; exact HT.out j' h; rw [show j' = j + 1 by omega]; exact hs)
    clear hs t0 t1 t2 t3
    go_wp2_with fail
    go_round
    case rel => exact ⟨j + 1 + 1, by omega, by go_num, HT2⟩
    case measure => simp [intOf]; omega
end Go.Proofs.Ythlnfjbedehjdaa
