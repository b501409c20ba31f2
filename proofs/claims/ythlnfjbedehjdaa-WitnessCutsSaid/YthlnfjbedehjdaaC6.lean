/- cuts: whether cuts are those of all sets, each of which fits. -/
import Derived.Test.YthlnfjbedehjdaaZe
import Derived.Test.YthlnfjbedehjdaaZd
namespace Go.Proofs.Ythlnfjbedehjdaa
open Go.RowKit Go.Deep Go.Shelf

attribute [local go_sem] Oper.semAt_some
def cutsB (q : RaceD) (certain : Bool) (cs : List CutD) : Bool := decide (cs.map CutD.free = comb (rivR q) (sizeK q certain).toNat) && cs.all (fitsB q certain)
/-- the first k cuts are right -/
def cutsTo (q : RaceD) (certain : Bool) (cs : List CutD) (L : List (List Int)) (k : Nat) : Prop := k ≤ cs.length ∧ (cs.take k).map CutD.free = L.take k ∧ ∀ i, i < k → fitsB q certain (cutN cs i) = true
/-- the boxes of cuts after k rounds -/
def CutsI (w : World) (M' : Nat → Prop) (q : RaceD) (certain : Bool) (cs : List CutD) (L : List (List Int)) (nl Bl Bq Bc : Nat) (cA : Option Addr) (cc : Nat) (pA : Option Addr) (pc : Nat) (oA : Option Addr) (oc k : Nat) (W : World) : Prop :=
  cutsTo q certain cs L k ∧ (∃ A r c, r = nl - k ∧ W.heap[Bl]? = some (.cells #[.slice A r c] 33 (0, 0)) ∧ IsCuts w M' (.slice A r c) (cs.drop k)) ∧ W.heap[Bq]? = some (.cells #[.bool false] 4 (0, 0)) ∧ W.heap[w.heap.size]? = some (.cells #[.int .i64 q.win, .int .i64 q.draw, .slice cA q.clubs.length cc, .slice pA q.points.length pc, .slice oA q.opn.length oc, .int .i64 q.club, .int .i64 q.place] 55 (0, 0)) ∧ W.heap[Bc]? = some (.cells #[.bool certain] 4 (0, 0)) ∧ Below w.heap.size w W
theorem keepsO_below {A B : World} (h : Below A.heap.size A B) : KeepsOthers A B := ⟨h.size, fun k _ hk _ => (h.block k (lt_heap hk)).trans hk⟩
set_option maxRecDepth 20000 in
set_option maxHeartbeats 4000000 in
theorem cuts_any (w : World) (M M' : Nat → Prop) (v u : Value) (q : RaceD) (certain : Bool) (cs : List CutD) (h : IsRace w M v q) (h' : IsCuts w M' u cs) (hv : ValidR q) (hlen : ∀ c ∈ cs, c.free.length ≤ 140737488355328 ∧ c.clubs.length ≤ 140737488355328) :
    Calls Try.prog 80 #[v, .bool certain, u] w fun e w' => e = .returned (.bool (cutsB q certain cs)) ∧ Below w.heap.size w w' := by
  have hp1 := hv.size.p1
  have hp24 : q.place ≤ 24 := by have := hv.size.pn; have := hv.size.n24; omega
  have CS := fun (W : World) (hB : Below w.heap.size w W) => Lib.hid (size_any W M _ q (h.below hB) certain ⟨hp1, hp24⟩)
  have HR := Lib.hid h
  obtain ⟨cA, cc, pA, pc, oA, oc, rfl, -⟩ := h.parts
  obtain ⟨lA, lc, rfl, hl1, hl2⟩ := h'.len
  obtain ⟨many, hmany⟩ : ∃ many : Nat, sizeK q certain = (many : Int) := ⟨(sizeK q certain).toNat, by unfold sizeK; split <;> omega⟩
  have hm24 : many ≤ 24 := by unfold sizeK at hmany; split at hmany <;> omega
  have HMANY := Lib.hid hmany
  have HU := Lib.hid h'
  have HV := Lib.hid hv
  have HLEN := Lib.hid hlen
  have HCB := Lib.hid (show cutsB q certain cs = (decide (cs.map CutD.free = comb (rivR q) many) && cs.all (fitsB q certain)) by unfold cutsB; rw [hmany]; rfl)
  obtain ⟨z, hz⟩ : ∃ z, z = cutsB q certain cs := ⟨_, rfl⟩
  rw [← hz] at HCB ⊢
  clear h h' hv hlen hmany hz hp1 hp24
  obtain ⟨nl, hnl⟩ : ∃ nl, nl = cs.length := ⟨_, rfl⟩
  rw [← hnl] at hl1 ⊢
  have HNL := Lib.hid hnl
  clear hnl
  refine (callsIn_wide (n := 6)).1 ?_
  refine callsIn_of_wp_marks Try.func80 rfl trivial ?_ rfl
  simp only [Try.ntmps80, List.size_toArray, List.length_cons, List.length_nil, Nat.reduceAdd, Nat.reduceSub, Array.replicate_succ, Array.replicate_zero, List.push_toArray, List.append_toArray, List.nil_append, List.cons_append]
  gi_wp2_with fail
  refine (wpIn_wide (n := 6)).2 ?_
  refine nameC fun W1 hW1 => ?_
  have hb1 : Below w.heap.size w W1 := by rw [hW1.out]; exact ((((Below.refl _ _).alloc (Nat.le_refl _) _).alloc (by simp) _).alloc (by simp; omega) _).alloc (by simp; omega) _
  have k0 : W1.heap[w.heap.size]? = some (.cells #[.int .i64 q.win, .int .i64 q.draw, .slice cA q.clubs.length cc, .slice pA q.points.length pc, .slice oA q.opn.length oc, .int .i64 q.club, .int .i64 q.place] 55 (0, 0)) := by rw [hW1.out]; simp only [heap_alloc_if, World.size_alloc]; rw [if_neg (by omega), if_neg (by omega), if_neg (by omega), if_pos trivial]
  have k1 : W1.heap[w.heap.size + 1]? = some (.cells #[.bool certain] 4 (0, 0)) := by rw [hW1.out]; simp only [heap_alloc_if, World.size_alloc]; rw [if_neg (by omega), if_neg (by omega), if_pos trivial]
  have k2 : W1.heap[w.heap.size + 1 + 1]? = some (.cells #[.slice lA nl lc] 33 (0, 0)) := by rw [hW1.out]; simp only [heap_alloc_if, World.size_alloc]; rw [if_neg (by omega), if_pos trivial]
  have k3 : W1.heap[w.heap.size + 1 + 1 + 1]? = some (.cells #[.bool false] 4 (0, 0)) := by rw [hW1.out]; simp only [heap_alloc_if, World.size_alloc]; rw [if_pos trivial]
  obtain ⟨Bq, hBq⟩ : ∃ Bq, Bq = w.heap.size + 1 + 1 + 1 := ⟨_, rfl⟩
  rw [← hBq] at k3 ⊢
  obtain ⟨Bl, hBl⟩ : ∃ Bl, Bl = w.heap.size + 1 + 1 := ⟨_, rfl⟩
  rw [← hBl] at k2 ⊢
  obtain ⟨Bc, hBc⟩ : ∃ Bc, Bc = w.heap.size + 1 := ⟨_, rfl⟩
  rw [← hBc] at k1 ⊢
  have hw0 : w.heap.size < Bc := by omega
  have hw1 : Bc < Bl := by omega
  have hw2 : Bl < Bq := by omega
  have hn1 : Bq < W1.heap.size := lt_heap k3
  have HBL := Lib.hid (show ∀ W', Below W1.heap.size W1 W' → Below w.heap.size w W' from fun W' h => hb1.trans (h.mono hb1.size))
  have HC1 := Lib.hid (show ∀ W', Below W1.heap.size W1 W' → (W'.cell? ⟨w.heap.size, 0, none⟩ = some (.int .i64 q.win) ∧ W'.cell? ⟨w.heap.size, 1, none⟩ = some (.int .i64 q.draw) ∧ W'.cell? ⟨w.heap.size, 2, none⟩ = some (.slice cA q.clubs.length cc) ∧ W'.cell? ⟨w.heap.size, 3, none⟩ = some (.slice pA q.points.length pc) ∧ W'.cell? ⟨w.heap.size, 4, none⟩ = some (.slice oA q.opn.length oc) ∧ W'.cell? ⟨w.heap.size, 5, none⟩ = some (.int .i64 q.club) ∧ W'.cell? ⟨w.heap.size, 6, none⟩ = some (.int .i64 q.place) ∧ W'.cell? ⟨Bc, 0, none⟩ = some (.bool certain)) from fun W' h => by
    have e0 := (h.block _ (lt_heap k0)).trans k0
    have e1 := (h.block _ (lt_heap k1)).trans k1
    exact ⟨cell_of e0 rfl, cell_of e0 rfl, cell_of e0 rfl, cell_of e0 rfl, cell_of e0 rfl, cell_of e0 rfl, cell_of e0 rfl, cell_of e1 rfl⟩)
  have K0 := Lib.hid k0
  have K1 := Lib.hid k1
  have K2 := Lib.hid k2
  have K3 := Lib.hid k3
  clear hW1 hb1 k0 k1 k2 k3 hBq hBl hBc
  refine wp_calm ?_
  refine wp_region_held_drew (S := fun W9 => Below W1.heap.size W1 W9) (by kernel_rfl) (Below.drew (Below.refl _ _)) (fun hHeld => ?_)
  change wpAnyH _ _ _ _ _ 5 #[false, false, false, false, false] _ W1.drew
  refine takeD (i := 0) (d := some 8) (v := ?_) rfl rfl (by kernel_rfl) (by kernel_rfl) (by kernel_rfl) (fun _ _ _ h => h) (Or.inl ⟨by rfl, ?_⟩) hHeld ?_
  rotate_left 1
  focus (intro w hSw; (try dsimp only at hSw); obtain ⟨e0, e1, e2, e3, e4, e5, e6, e7⟩ := HC1.out w hSw; go_simp; (try with_reducible rfl))
  (repeat (first | simp only [Act.put] | simp only [List.setIfInBounds_toArray] | simp only [List.set_cons_zero] | simp only [List.set_cons_succ]))
  refine takeD (i := 1) (d := some 9) (v := ?_) rfl rfl (by kernel_rfl) (by kernel_rfl) (by kernel_rfl) (fun _ _ _ h => h) (Or.inl ⟨by rfl, ?_⟩) hHeld ?_
  rotate_left 1
  focus (intro w hSw; (try dsimp only at hSw); obtain ⟨e0, e1, e2, e3, e4, e5, e6, e7⟩ := HC1.out w hSw; go_simp; (try with_reducible rfl))
  (repeat (first | simp only [Act.put] | simp only [List.setIfInBounds_toArray] | simp only [List.set_cons_zero] | simp only [List.set_cons_succ]))
  refine takeD (i := 2) (d := some 10) (v := ?_) rfl rfl (by kernel_rfl) (by kernel_rfl) (by kernel_rfl) (fun _ _ _ h => h) (Or.inl ⟨by rfl, ?_⟩) hHeld ?_
  rotate_left 1
  focus (intro w hSw; (try dsimp only at hSw); obtain ⟨e0, e1, e2, e3, e4, e5, e6, e7⟩ := HC1.out w hSw; go_simp; (try with_reducible rfl))
  (repeat (first | simp only [Act.put] | simp only [List.setIfInBounds_toArray] | simp only [List.set_cons_zero] | simp only [List.set_cons_succ]))
  refine wpAnyH_ready (rs := [3]) (by kernel_rfl) (by simp) ?_
  refine AllReadyH.cons rfl (fun K hK => ?_) AllReadyH.nil
  go_simp
  go_at_call 52
  refine (CS _ (HBL.out _ (by repeat (first | with_reducible exact Below.refl _ _ | with_reducible exact HB9.out | (with_reducible refine Below.drew ?_))))).out.mono ?_
  rintro e w9 ⟨rfl, hb9⟩
  have HB9 : Hid (Below W1.heap.size W1 w9) := Lib.hid ((show Below W1.heap.size W1 _ from (by repeat (first | with_reducible exact Below.refl _ _ | with_reducible exact HB9.out | (with_reducible refine Below.drew ?_)))).trans (hb9.mono (show W1.heap.size ≤ _ from (show Below W1.heap.size W1 _ from (by repeat (first | with_reducible exact Below.refl _ _ | with_reducible exact HB9.out | (with_reducible refine Below.drew ?_)))).size)))
  clear hb9
  refine hK.out _ _ ((by repeat (first | with_reducible exact Below.refl _ _ | with_reducible exact HB9.out | (with_reducible refine Below.drew ?_)))) (fun hHeld => ?_)
  clear hK K
  (repeat (first | simp only [Act.put] | simp only [List.setIfInBounds_toArray] | simp only [List.set_cons_zero] | simp only [List.set_cons_succ]))
  rw [HMANY.out]
  refine wpAnyH_ready (rs := [4]) (by kernel_rfl) (by simp) ?_
  refine AllReadyH.cons rfl (fun K hK => ?_) AllReadyH.nil
  go_simp
  go_at_call 95
  refine (sets_any _ _ _ _ _ _ _ _ _).mono ?_
  rintro e W0 ⟨rfl, hW0⟩
  refine hK.out _ _ (by rw [hW0]; exact (HB9.out.alloc HB9.out.size _).alloc (by have := HB9.out.size; simp; omega) _) (fun hHeld => ?_)
  clear hK K
  (repeat (first | simp only [Act.put] | simp only [List.setIfInBounds_toArray] | simp only [List.set_cons_zero] | simp only [List.set_cons_succ]))
  refine wpAnyH_done (by kernel_rfl) ?_ _
  dsimp only [calm]
  have hb0 : Below W1.heap.size W1 W0 := by rw [hW0]; exact (HB9.out.alloc HB9.out.size _).alloc (by have := HB9.out.size; simp; omega) _
  have kr : W0.heap[w9.heap.size]? = some (.cells #[.int .i64 q.win, .int .i64 q.draw, .slice cA q.clubs.length cc, .slice pA q.points.length pc, .slice oA q.opn.length oc, .int .i64 q.club, .int .i64 q.place] 55 (0, 0)) := by rw [hW0, heap_alloc_if, if_neg (by simp)]; exact heap_alloc_new _ _
  have km : W0.heap[w9.heap.size + 1]? = some (.cells #[.int .i64 (many : Int)] 3 (0, 0)) := by rw [hW0, heap_alloc_if, if_pos (by simp)]
  replace K0 := Lib.hid ((hb0.block _ (lt_heap K0.out)).trans K0.out)
  replace K1 := Lib.hid ((hb0.block _ (lt_heap K1.out)).trans K1.out)
  replace K2 := Lib.hid ((hb0.block _ (lt_heap K2.out)).trans K2.out)
  replace K3 := Lib.hid ((hb0.block _ (lt_heap K3.out)).trans K3.out)
  have HB0 := Lib.hid (HBL.out _ hb0)
  have KR := Lib.hid kr
  have KM := Lib.hid km
  have hz9 := HB9.out.size
  have hz0 := lt_heap km
  clear hW0 hb0 kr km HB9 hHeld HC1 CS
  have hszr := HV.out.size
  obtain ⟨cb, hcb⟩ : ∃ cb : Nat, q.club = (cb : Int) := ⟨q.club.toNat, by have := hszr.c0; omega⟩
  have hc24 := hszr.n24
  have HCBB := Lib.hid hcb
  clear hszr hcb
  gi_wp2_with fail
  refine wpIn_rangeRS (gf := 105) (lb := #[.pointer (some ⟨w9.heap.size, 0, none⟩), .pointer (some ⟨w9.heap.size + 1, 0, none⟩)]) rfl (enters_of Try.func105 (by kernel_rfl) rfl) (encs := encS) (fun _ => rfl)
    (fun pre W => CutsI w M' q certain cs (comb (rivR q) many) nl Bl Bq Bc cA cc pA pc oA oc pre.length W)
    (fun cd W => cd = .ret ∧ z = false ∧ W.heap[Bq]? = some (.cells #[.bool false] 4 (0, 0)) ∧ Below w.heap.size w W)
    (RSy (fun b => b = Bl ∨ b = Bq) (comb (rivR q) many)) (Kp := KC (fun b => b = Bl ∨ b = Bq)) (S := fun xs => xs.map Sy.set = comb (rivR q) many) ?hIq ?hXq (RSy.quiet _ _ _) ?hIb ?hXb ?h0 ?hseq KC.trans (fun W l o o' _ h1 h2 _ => kc_b W l o o' h1 h2) ?a1 ?assign ?body ?done ?stop
  case assign =>
    intro l x W K hK
    simp only [encS]
    gi_wp2
    exact hK
  case hIq =>
    rintro pre W l o o' hl hI ho hc
    obtain ⟨h1, ⟨A, r, c, hr, h2, h3⟩, h4, h5, h6, h7⟩ := hI
    have other : ∀ {k : Nat} {cs : Array Value} {t : TypeId}, W.heap[k]? = some (.cells cs t (0, 0)) → (W.putObj l o').heap[k]? = some (.cells cs t (0, 0)) := fun h => by
      rw [World.putObj_heap_other (fun e => by subst e; rw [h] at ho; cases ho; cases hc)]; exact h
    exact ⟨h1, ⟨A, r, c, hr, other h2, h3⟩, other h4, other h5, other h6, h7.grown (grownBy_putObj' W l o') (by have := h7.size; omega) (fun k e => by cases e; have := HB0.out.size; omega)⟩
  case hXq =>
    rintro cd W l o o' hl ⟨h1, h2, h3, h4⟩ ho hc
    refine ⟨h1, h2, ?_, h4.grown (grownBy_putObj' W l o') (by have := h4.size; omega) (fun k e => by cases e; have := HB0.out.size; omega)⟩
    rw [World.putObj_heap_other (fun e => by subst e; rw [h3] at ho; cases ho; cases hc)]; exact h3
  case hIb =>
    rintro pre A B hI hB
    obtain ⟨h1, ⟨A', r, c, hr, h2, h3⟩, h4, h5, h6, h7⟩ := hI
    exact ⟨h1, ⟨A', r, c, hr, (hB.block _ (lt_heap h2)).trans h2, h3⟩, (hB.block _ (lt_heap h4)).trans h4, (hB.block _ (lt_heap h5)).trans h5, (hB.block _ (lt_heap h6)).trans h6, h7.trans (hB.mono h7.size)⟩
  case hXb =>
    rintro cd A B ⟨h1, h2, h3, h4⟩ hB
    exact ⟨h1, h2, (hB.block _ (lt_heap h3)).trans h3, h4.trans (hB.mono h4.size)⟩
  case h0 => exact ⟨⟨Nat.zero_le _, by simp, fun i hi => absurd hi (by simp)⟩, ⟨lA, nl, lc, by simp, K2.out, by have := HU.out; rw [← HNL.out] at this; simpa using this⟩, K3.out, K0.out, K1.out, HB0.out⟩
  case hseq => exact sets1_seq _ w9.heap.size (w9.heap.size + 1) many q.clubs.length cb _ q cA cc W0 (by rw [← HCBB.out]; exact cell_of KR.out rfl) (cell_of KR.out rfl) (cell_of KM.out rfl) (fun h => by rcases h with h | h <;> omega) (fun b h => by rcases h with h | h <;> omega) hm24 hc24 rfl HCBB.out
  case body =>
    rintro l pre ⟨xv, xs⟩ W hI ⟨⟨rest, hrest⟩, hx⟩
    obtain ⟨h1, ⟨A, r, c, hr, h2, h3⟩, h4, h5, h6, h7⟩ := hI
    obtain ⟨xA, xc, hxv, -⟩ := id hx
    dsimp only at hxv hrest
    obtain rfl := hxv
    obtain ⟨k, hk⟩ : ∃ k, k = pre.length := ⟨_, rfl⟩
    rw [← hk] at h1 hr h3
    have HXV := Lib.hid (show IsInts W (fun b => ¬ (b = Bl ∨ b = Bq)) (.slice xA xs.length xc) xs from hx)
    have hLk : (comb (rivR q) many)[k]? = some xs := by rw [hrest, List.getElem?_append_right (by rw [List.length_map]; omega), List.length_map, hk]; simp
    have hkn := h1.1
    have HN0 := Lib.hid (show r = 0 → z = false from fun e => by
      rw [HCB.out, decide_eq_false (fun h => ?_), Bool.false_and]
      have h5 := (List.getElem?_eq_some_iff.1 hLk).1
      rw [← h, List.length_map] at h5
      have := HNL.out
      omega)
    have HN1 := Lib.hid (show r ≠ 0 → false = ((cutN cs k).free == xs) → z = false from fun h0 e => by
      rw [HCB.out, decide_eq_false (fun h => ?_), Bool.false_and]
      have h5 := hLk
      have hkl : k < cs.length := by have := HNL.out; omega
      rw [← h, List.getElem?_map, List.getElem?_eq_getElem hkl] at h5
      have h6 : (cutN cs k).free = xs := by rw [cutN_get hkl]; simpa using h5
      rw [h6] at e
      simp at e)
    have HN2 := Lib.hid (show r ≠ 0 → false = fitsB q certain (cutN cs k) → z = false from fun h0 e => by
      have hkl : k < cs.length := by have := HNL.out; omega
      rw [HCB.out, show cs.all (fitsB q certain) = false from ?_, Bool.and_false]
      rw [List.all_eq_false]
      exact ⟨_, List.getElem_mem hkl, by rw [← cutN_get hkl, ← e]; simp⟩)
    have HOK := Lib.hid (show r ≠ 0 → true = ((cutN cs k).free == xs) → true = fitsB q certain (cutN cs k) → cutsTo q certain cs (comb (rivR q) many) (pre ++ [(⟨.slice xA xs.length xc, xs⟩ : Sy)]).length from fun h0 e1 e2 => by
      have hkl : k < cs.length := by have := HNL.out; omega
      rw [List.length_append, List.length_singleton, ← hk]
      refine ⟨by omega, ?_, fun i hi => ?_⟩
      · rw [List.take_add_one, List.map_append, h1.2.1, List.take_add_one, hLk, List.getElem?_eq_getElem hkl]
        have : (cutN cs k).free = xs := by simpa using e1.symm
        rw [cutN_get hkl] at this
        simp [this]
      · rcases Nat.lt_or_ge i k with h | h
        · exact h1.2.2 i h
        · rw [show i = k by omega]; exact e2.symm)
    have HLN := Lib.hid (show r ≠ 0 → (cutN cs k).free.length ≤ 140737488355328 ∧ (cutN cs k).clubs.length ≤ 140737488355328 from fun h0 => by
      have hkl : k < cs.length := by have := HNL.out; omega
      rw [cutN_get hkl]
      exact HLEN.out _ (List.getElem_mem hkl))
    have hrc : r ≤ c := by obtain ⟨A', c', e, h8, -⟩ := h3; rw [List.length_drop] at e h8; have h9 := Value.slice.inj e; omega
    have hrl : r = (cs.drop k).length := by rw [List.length_drop, ← HNL.out]; exact hr
    have HCU := Lib.hid (show r ≠ 0 → ∃ lb lo fA fc uA uc gA gc, A = some ⟨lb, lo, none⟩ ∧ (∀ W', Below W.heap.size W W' → W'.cell? ⟨lb, lo, none⟩ = some (.slice fA (cutN cs k).free.length fc) ∧ W'.cell? ⟨lb, lo + 1, none⟩ = some (.slice uA (cutN cs k).clubs.length uc) ∧ W'.cell? ⟨lb, lo + 2, none⟩ = some (.slice gA (cutN cs k).games.length gc)) ∧
        Hid (IsInts w M' (.slice fA (cutN cs k).free.length fc) (cutN cs k).free) ∧ Hid (IsCut w M' (.agg #[.slice fA (cutN cs k).free.length fc, .slice uA (cutN cs k).clubs.length uc, .slice gA (cutN cs k).games.length gc]) (cutN cs k)) from fun h0 => by
      obtain ⟨A', c', e, h8, -, h9⟩ := h3
      obtain ⟨rfl, -, rfl⟩ := Value.slice.inj e
      obtain ⟨lb, lo, rfl, h10⟩ := h9 (by omega)
      obtain ⟨fA, fc, uA, uc, gA, gc, q1, q2, q3, q4, q5, q6⟩ := h10.at_ 0 (by omega)
      simp only [cutN_drop, Nat.add_zero, Nat.zero_mul] at q1 q2 q3 q4 q5 q6
      refine ⟨lb, lo, fA, fc, uA, uc, gA, gc, rfl, fun W' h => ?_, Lib.hid q4, Lib.hid ⟨_, _, _, rfl, q4, q5, q6⟩⟩
      have hh := h7.trans (h.mono h7.size)
      exact ⟨(hh.cell (p := ⟨lb, lo, none⟩) (lt_of_cell q1)).trans q1, (hh.cell (p := ⟨lb, lo + 1, none⟩) (lt_of_cell q2)).trans q2, (hh.cell (p := ⟨lb, lo + 2, none⟩) (lt_of_cell q3)).trans q3⟩)
    have HG8 := Lib.hid (show ∀ W', Below W.heap.size W W' → (W'.cell? ⟨Bl, 0, none⟩ = some (.slice A r c) ∧ W'.cell? ⟨w.heap.size, 0, none⟩ = some (.int .i64 q.win) ∧ W'.cell? ⟨w.heap.size, 1, none⟩ = some (.int .i64 q.draw) ∧ W'.cell? ⟨w.heap.size, 2, none⟩ = some (.slice cA q.clubs.length cc) ∧ W'.cell? ⟨w.heap.size, 3, none⟩ = some (.slice pA q.points.length pc) ∧ W'.cell? ⟨w.heap.size, 4, none⟩ = some (.slice oA q.opn.length oc) ∧ W'.cell? ⟨w.heap.size, 5, none⟩ = some (.int .i64 q.club) ∧ W'.cell? ⟨w.heap.size, 6, none⟩ = some (.int .i64 q.place) ∧ W'.cell? ⟨Bc, 0, none⟩ = some (.bool certain)) from fun W' h => by
      have e0 := (h.block _ (lt_heap h5)).trans h5
      have e1 := (h.block _ (lt_heap h6)).trans h6
      have e2 := (h.block _ (lt_heap h2)).trans h2
      exact ⟨cell_of e2 rfl, cell_of e0 rfl, cell_of e0 rfl, cell_of e0 rfl, cell_of e0 rfl, cell_of e0 rfl, cell_of e0 rfl, cell_of e0 rfl, cell_of e1 rfl⟩)
    have HLB := Lib.hid h2
    have HQB := Lib.hid h4
    have H5 := Lib.hid h5
    have H6 := Lib.hid h6
    have HBE := Lib.hid h7
    have HCS := Lib.hid h3
    have HKP := Lib.hid hk
    have HRL := Lib.hid hr
    clear h1 h2 h3 h4 h5 h6 h7 hx hrest hLk hr hrl hk hkn
    gi_wp2_with fail
    by_cases hr0 : r = 0
    · skip
      have d0 : ((r : Int) == 0) = true := by rw [beq_iff_eq]; omega
      have d1 : (r == 0) = true := by rw [beq_iff_eq]; omega
      have HQ := Lib.hid (HN0.out hr0)
      clear hr0
      refine round_region (S := fun W9 => Below W.heap.size W W9) (by kernel_rfl) (by kernel_rfl) (fun ⟨_, _, h⟩ => h) (Below.drew (Below.refl _ _)) (fun hHeld => ?_)
      change wpAnyH _ _ _ _ _ 21 #[false, false, false, false, false, false, false, false, false, false, false, false, false, false, false, false, false, false, false, false, false] _ W.drew
      refine takeD (i := 0) (d := some 14) (v := ?_) rfl rfl (by kernel_rfl) (by kernel_rfl) (by kernel_rfl) (fun _ _ _ h => h) (Or.inl ⟨by rfl, ?_⟩) hHeld ?_
      rotate_left 1
      focus (intro w hSw; (try dsimp only at hSw); have e8 := (HG8.out w hSw).1; go_simp; (try with_reducible rfl))
      (repeat (first | simp only [Act.put] | simp only [List.setIfInBounds_toArray] | simp only [List.set_cons_zero] | simp only [List.set_cons_succ]))
      refine takeD (i := 1) (d := some 15) (v := ?_) rfl rfl (by kernel_rfl) (by kernel_rfl) (by kernel_rfl) (fun _ _ _ h => h) (Or.inl ⟨by rfl, ?_⟩) hHeld ?_
      rotate_left 1
      focus (intro w hSw; (try dsimp only at hSw); go_simp; (try with_reducible rfl))
      (repeat (first | simp only [Act.put] | simp only [List.setIfInBounds_toArray] | simp only [List.set_cons_zero] | simp only [List.set_cons_succ]))
      refine takeD (i := 2) (d := some 16) (v := ?_) rfl rfl (by kernel_rfl) (by kernel_rfl) (by kernel_rfl) (fun _ _ _ h => h) (Or.inl ⟨by rfl, ?_⟩) hHeld ?_
      rotate_left 1
      focus (intro w hSw; (try dsimp only at hSw); go_simp; (try with_reducible rfl))
      (repeat (first | simp only [Act.put] | simp only [List.setIfInBounds_toArray] | simp only [List.set_cons_zero] | simp only [List.set_cons_succ]))
      refine takeD (i := 3) (d := some 17) (v := ?_) rfl rfl (by kernel_rfl) (by kernel_rfl) (by kernel_rfl) (fun _ _ _ h => h) (Or.inl ⟨by rfl, ?_⟩) hHeld ?_
      rotate_left 1
      focus (intro w hSw; (try dsimp only at hSw); go_simp; (try with_reducible rfl))
      (repeat (first | simp only [Act.put] | simp only [List.setIfInBounds_toArray] | simp only [List.set_cons_zero] | simp only [List.set_cons_succ]))
      refine takeD (i := 4) (d := some 18) (v := undef) rfl rfl (by kernel_rfl) (by kernel_rfl) (by kernel_rfl) (fun _ _ _ h => h) (Or.inr ⟨by rfl, rfl⟩) hHeld ?_
      (repeat (first | simp only [Act.put] | simp only [List.setIfInBounds_toArray] | simp only [List.set_cons_zero] | simp only [List.set_cons_succ]))
      refine takeD (i := 5) (d := some 19) (v := undef) rfl rfl (by kernel_rfl) (by kernel_rfl) (by kernel_rfl) (fun _ _ _ h => h) (Or.inr ⟨by rfl, rfl⟩) hHeld ?_
      (repeat (first | simp only [Act.put] | simp only [List.setIfInBounds_toArray] | simp only [List.set_cons_zero] | simp only [List.set_cons_succ]))
      refine takeD (i := 6) (d := some 20) (v := undef) rfl rfl (by kernel_rfl) (by kernel_rfl) (by kernel_rfl) (fun _ _ _ h => h) (Or.inr ⟨by rfl, rfl⟩) hHeld ?_
      (repeat (first | simp only [Act.put] | simp only [List.setIfInBounds_toArray] | simp only [List.set_cons_zero] | simp only [List.set_cons_succ]))
      refine takeD (i := 7) (d := some 21) (v := undef) rfl rfl (by kernel_rfl) (by kernel_rfl) (by kernel_rfl) (fun _ _ _ h => h) (Or.inr ⟨by rfl, rfl⟩) hHeld ?_
      (repeat (first | simp only [Act.put] | simp only [List.setIfInBounds_toArray] | simp only [List.set_cons_zero] | simp only [List.set_cons_succ]))
      refine takeD (i := 8) (d := some 22) (v := undef) rfl rfl (by kernel_rfl) (by kernel_rfl) (by kernel_rfl) (fun _ _ _ h => h) (Or.inr ⟨by rfl, rfl⟩) hHeld ?_
      (repeat (first | simp only [Act.put] | simp only [List.setIfInBounds_toArray] | simp only [List.set_cons_zero] | simp only [List.set_cons_succ]))
      refine takeD (i := 9) (d := some 23) (v := undef) rfl rfl (by kernel_rfl) (by kernel_rfl) (by kernel_rfl) (fun _ _ _ h => h) (Or.inr ⟨by rfl, rfl⟩) hHeld ?_
      (repeat (first | simp only [Act.put] | simp only [List.setIfInBounds_toArray] | simp only [List.set_cons_zero] | simp only [List.set_cons_succ]))
      refine takeD (i := 10) (d := some 24) (v := undef) rfl rfl (by kernel_rfl) (by kernel_rfl) (by kernel_rfl) (fun _ _ _ h => h) (Or.inr ⟨by rfl, rfl⟩) hHeld ?_
      (repeat (first | simp only [Act.put] | simp only [List.setIfInBounds_toArray] | simp only [List.set_cons_zero] | simp only [List.set_cons_succ]))
      refine takeD (i := 11) (d := some 25) (v := ?_) rfl rfl (by kernel_rfl) (by kernel_rfl) (by kernel_rfl) (fun _ _ _ h => h) (Or.inl ⟨by rfl, ?_⟩) hHeld ?_
      rotate_left 1
      focus (intro w hSw; (try dsimp only at hSw); go_simp; (try with_reducible rfl))
      (repeat (first | simp only [Act.put] | simp only [List.setIfInBounds_toArray] | simp only [List.set_cons_zero] | simp only [List.set_cons_succ]))
      refine takeD (i := 12) (d := some 26) (v := ?_) rfl rfl (by kernel_rfl) (by kernel_rfl) (by kernel_rfl) (fun _ _ _ h => h) (Or.inl ⟨by rfl, ?_⟩) hHeld ?_
      rotate_left 1
      focus (intro w hSw; (try dsimp only at hSw); go_simp; (try with_reducible rfl))
      (repeat (first | simp only [Act.put] | simp only [List.setIfInBounds_toArray] | simp only [List.set_cons_zero] | simp only [List.set_cons_succ]))
      refine takeD (i := 13) (d := some 27) (v := undef) rfl rfl (by kernel_rfl) (by kernel_rfl) (by kernel_rfl) (fun _ _ _ h => h) (Or.inr ⟨by rfl, rfl⟩) hHeld ?_
      (repeat (first | simp only [Act.put] | simp only [List.setIfInBounds_toArray] | simp only [List.set_cons_zero] | simp only [List.set_cons_succ]))
      refine takeD (i := 14) (d := some 28) (v := undef) rfl rfl (by kernel_rfl) (by kernel_rfl) (by kernel_rfl) (fun _ _ _ h => h) (Or.inr ⟨by rfl, rfl⟩) hHeld ?_
      (repeat (first | simp only [Act.put] | simp only [List.setIfInBounds_toArray] | simp only [List.set_cons_zero] | simp only [List.set_cons_succ]))
      refine takeD (i := 15) (d := some 29) (v := undef) rfl rfl (by kernel_rfl) (by kernel_rfl) (by kernel_rfl) (fun _ _ _ h => h) (Or.inr ⟨by rfl, rfl⟩) hHeld ?_
      (repeat (first | simp only [Act.put] | simp only [List.setIfInBounds_toArray] | simp only [List.set_cons_zero] | simp only [List.set_cons_succ]))
      refine takeD (i := 16) (d := some 30) (v := undef) rfl rfl (by kernel_rfl) (by kernel_rfl) (by kernel_rfl) (fun _ _ _ h => h) (Or.inr ⟨by rfl, rfl⟩) hHeld ?_
      (repeat (first | simp only [Act.put] | simp only [List.setIfInBounds_toArray] | simp only [List.set_cons_zero] | simp only [List.set_cons_succ]))
      refine takeD (i := 17) (d := some 31) (v := undef) rfl rfl (by kernel_rfl) (by kernel_rfl) (by kernel_rfl) (fun _ _ _ h => h) (Or.inr ⟨by rfl, rfl⟩) hHeld ?_
      (repeat (first | simp only [Act.put] | simp only [List.setIfInBounds_toArray] | simp only [List.set_cons_zero] | simp only [List.set_cons_succ]))
      refine takeD (i := 18) (d := some 32) (v := undef) rfl rfl (by kernel_rfl) (by kernel_rfl) (by kernel_rfl) (fun _ _ _ h => h) (Or.inr ⟨by rfl, rfl⟩) hHeld ?_
      (repeat (first | simp only [Act.put] | simp only [List.setIfInBounds_toArray] | simp only [List.set_cons_zero] | simp only [List.set_cons_succ]))
      refine takeD (i := 19) (d := some 33) (v := undef) rfl rfl (by kernel_rfl) (by kernel_rfl) (by kernel_rfl) (fun _ _ _ h => h) (Or.inr ⟨by rfl, rfl⟩) hHeld ?_
      (repeat (first | simp only [Act.put] | simp only [List.setIfInBounds_toArray] | simp only [List.set_cons_zero] | simp only [List.set_cons_succ]))
      refine takeD (i := 20) (d := some 34) (v := ?_) rfl rfl (by kernel_rfl) (by kernel_rfl) (by kernel_rfl) (fun _ _ _ h => h) (Or.inl ⟨by rfl, ?_⟩) hHeld ?_
      rotate_left 1
      focus (intro w hSw; (try dsimp only at hSw); go_simp; (try with_reducible rfl))
      (repeat (first | simp only [Act.put] | simp only [List.setIfInBounds_toArray] | simp only [List.set_cons_zero] | simp only [List.set_cons_succ]))
      refine wpAnyH_done (by kernel_rfl) ?_ _
      obtain ⟨W5, hW5⟩ : ∃ W5, W5 = W.drew := ⟨_, rfl⟩
      rw [← hW5]
      have hbW := (show Below W.heap.size W W5 by rw [hW5]; exact (by repeat (first | with_reducible exact Below.refl _ _ | with_reducible exact HB9.out | (with_reducible refine Below.drew ?_))))
      clear hW5 hHeld
      have hq5 := (hbW.block _ (lt_heap HQB.out)).trans HQB.out
      have e9 := cell_of (j := 0) hq5 rfl
      have f9 : W5.frozen? ⟨Bq, 0, none⟩ = false := by simp [World.frozen?, hq5]
      have HW5 := Lib.hid hbW
      have HQ5 := Lib.hid hq5
      clear hbW hq5
      gi_wp2_with fail
      refine ⟨(keepsO_below HW5.out).trans (KeepsOthers.setCell _ _ _), KC.setCell (KC.ofBelow HW5.out) (Or.inr rfl) _ _, rfl, HQ.out, ?_, (HBE.out.trans (HW5.out.mono HBE.out.size)).setCell (by show w.heap.size ≤ Bq; omega) _⟩
      rw [Blk_set (j := 0) HQ5.out]; rfl
    have d0 : ((r : Int) == 0) = false := by rw [beq_eq_false_iff_ne]; omega
    have d1 : (r == 0) = false := by rw [beq_eq_false_iff_ne]; omega
    obtain ⟨lb, lo, fA, fc, uA, uc, gA, gc, rfl, hcell, HF, HU2⟩ := HCU.out hr0
    have HG3 := Lib.hid hcell
    have CE := Lib.hid (show ∀ W', Below W.heap.size W W' → _ from fun W' h => equal_any W' _ _ _ _ (cutN cs k).free xs (IsSl.below HF.out (HBE.out.trans (h.mono HBE.out.size))) (IsSl.below HXV.out h) (HLN.out hr0).1)
    have CFI := Lib.hid (show ∀ W', Below W.heap.size W W' → _ from fun W' h => fits_any W' M M' _ _ q certain (cutN cs k) (HR.out.below (HBE.out.trans (h.mono HBE.out.size))) (IsCut.below HU2.out (HBE.out.trans (h.mono HBE.out.size))) HV.out (HLN.out hr0).1 (HLN.out hr0).2)
    obtain ⟨eq, heq⟩ : ∃ eq, eq = ((cutN cs k).free == xs) := ⟨_, rfl⟩
    obtain ⟨ft, hft⟩ : ∃ ft, ft = fitsB q certain (cutN cs k) := ⟨_, rfl⟩
    rw [← heq] at CE
    rw [← hft] at CFI
    have HEQ := Lib.hid heq
    have HFT := Lib.hid hft
    have hri : (0 : Int) < (r : Int) := by omega
    have hr1 : (1 : Int) ≤ (r : Int) := by omega
    have hr2 : 1 ≤ r := by omega
    have hr4 : 0 < r := by omega
    have hr3 : ¬ (r : Int) < 1 := by omega
    have HRN := Lib.hid hr0
    clear heq hft hr0 hcell
    refine round_region (S := fun W9 => Below W.heap.size W W9) (by kernel_rfl) (by kernel_rfl) (fun ⟨_, _, h⟩ => h) (Below.drew (Below.refl _ _)) (fun hHeld => ?_)
    change wpAnyH _ _ _ _ _ 21 #[false, false, false, false, false, false, false, false, false, false, false, false, false, false, false, false, false, false, false, false, false] _ W.drew
    refine takeD (i := 0) (d := some 14) (v := ?_) rfl rfl (by kernel_rfl) (by kernel_rfl) (by kernel_rfl) (fun _ _ _ h => h) (Or.inl ⟨by rfl, ?_⟩) hHeld ?_
    rotate_left 1
    focus (intro w hSw; (try dsimp only at hSw); obtain ⟨e8, e0, e1, e2, e3, e4, e5, e6, e7⟩ := HG8.out w hSw; obtain ⟨g0, g1, g2⟩ := HG3.out w hSw; go_simp; (try with_reducible rfl))
    (repeat (first | simp only [Act.put] | simp only [List.setIfInBounds_toArray] | simp only [List.set_cons_zero] | simp only [List.set_cons_succ]))
    refine takeD (i := 1) (d := some 15) (v := ?_) rfl rfl (by kernel_rfl) (by kernel_rfl) (by kernel_rfl) (fun _ _ _ h => h) (Or.inl ⟨by rfl, ?_⟩) hHeld ?_
    rotate_left 1
    focus (intro w hSw; (try dsimp only at hSw); go_simp; (try with_reducible rfl))
    (repeat (first | simp only [Act.put] | simp only [List.setIfInBounds_toArray] | simp only [List.set_cons_zero] | simp only [List.set_cons_succ]))
    refine takeD (i := 2) (d := some 16) (v := ?_) rfl rfl (by kernel_rfl) (by kernel_rfl) (by kernel_rfl) (fun _ _ _ h => h) (Or.inl ⟨by rfl, ?_⟩) hHeld ?_
    rotate_left 1
    focus (intro w hSw; (try dsimp only at hSw); go_simp; (try with_reducible rfl))
    (repeat (first | simp only [Act.put] | simp only [List.setIfInBounds_toArray] | simp only [List.set_cons_zero] | simp only [List.set_cons_succ]))
    refine takeD (i := 3) (d := some 17) (v := ?_) rfl rfl (by kernel_rfl) (by kernel_rfl) (by kernel_rfl) (fun _ _ _ h => h) (Or.inl ⟨by rfl, ?_⟩) hHeld ?_
    rotate_left 1
    focus (intro w hSw; (try dsimp only at hSw); go_simp; (try with_reducible rfl))
    (repeat (first | simp only [Act.put] | simp only [List.setIfInBounds_toArray] | simp only [List.set_cons_zero] | simp only [List.set_cons_succ]))
    refine takeD (i := 4) (d := some 18) (v := ?_) rfl rfl (by kernel_rfl) (by kernel_rfl) (by kernel_rfl) (fun _ _ _ h => h) (Or.inl ⟨by rfl, ?_⟩) hHeld ?_
    rotate_left 1
    focus (intro w hSw; (try dsimp only at hSw); obtain ⟨e8, e0, e1, e2, e3, e4, e5, e6, e7⟩ := HG8.out w hSw; obtain ⟨g0, g1, g2⟩ := HG3.out w hSw; go_simp; (try with_reducible rfl))
    (repeat (first | simp only [Act.put] | simp only [List.setIfInBounds_toArray] | simp only [List.set_cons_zero] | simp only [List.set_cons_succ]))
    refine takeD (i := 5) (d := some 19) (v := ?_) rfl rfl (by kernel_rfl) (by kernel_rfl) (by kernel_rfl) (fun _ _ _ h => h) (Or.inl ⟨by rfl, ?_⟩) hHeld ?_
    rotate_left 1
    focus (intro w hSw; (try dsimp only at hSw); go_simp; (try with_reducible rfl))
    (repeat (first | simp only [Act.put] | simp only [List.setIfInBounds_toArray] | simp only [List.set_cons_zero] | simp only [List.set_cons_succ]))
    refine takeD (i := 6) (d := some 20) (v := ?_) rfl rfl (by kernel_rfl) (by kernel_rfl) (by kernel_rfl) (fun _ _ _ h => h) (Or.inl ⟨by rfl, ?_⟩) hHeld ?_
    rotate_left 1
    focus (intro w hSw; (try dsimp only at hSw); go_simp; (try with_reducible rfl))
    (repeat (first | simp only [Act.put] | simp only [List.setIfInBounds_toArray] | simp only [List.set_cons_zero] | simp only [List.set_cons_succ]))
    refine takeD (i := 7) (d := some 21) (v := ?_) rfl rfl (by kernel_rfl) (by kernel_rfl) (by kernel_rfl) (fun _ _ _ h => h) (Or.inl ⟨by rfl, ?_⟩) hHeld ?_
    rotate_left 1
    focus (intro w hSw; (try dsimp only at hSw); obtain ⟨e8, e0, e1, e2, e3, e4, e5, e6, e7⟩ := HG8.out w hSw; obtain ⟨g0, g1, g2⟩ := HG3.out w hSw; go_simp; (try with_reducible rfl))
    (repeat (first | simp only [Act.put] | simp only [List.setIfInBounds_toArray] | simp only [List.set_cons_zero] | simp only [List.set_cons_succ]))
    refine takeD (i := 8) (d := some 22) (v := ?_) rfl rfl (by kernel_rfl) (by kernel_rfl) (by kernel_rfl) (fun _ _ _ h => h) (Or.inl ⟨by rfl, ?_⟩) hHeld ?_
    rotate_left 1
    focus (intro w hSw; (try dsimp only at hSw); go_simp; (try with_reducible rfl))
    (repeat (first | simp only [Act.put] | simp only [List.setIfInBounds_toArray] | simp only [List.set_cons_zero] | simp only [List.set_cons_succ]))
    refine wpAnyH_ready (rs := [9]) (by kernel_rfl) (by simp) ?_
    refine AllReadyH.cons rfl (fun K hK => ?_) AllReadyH.nil
    go_simp
    go_at_call 55
    refine (CE.out _ (by repeat (first | with_reducible exact Below.refl _ _ | with_reducible exact HB9.out | (with_reducible refine Below.drew ?_)))).mono ?_
    rintro e w9 ⟨rfl, hb9⟩
    have HBn : Hid (Below W.heap.size W w9) := Lib.hid ((show Below W.heap.size W _ from (by repeat (first | with_reducible exact Below.refl _ _ | with_reducible exact HB9.out | (with_reducible refine Below.drew ?_)))).trans (hb9.mono (show W.heap.size ≤ _ from (show Below W.heap.size W _ from (by repeat (first | with_reducible exact Below.refl _ _ | with_reducible exact HB9.out | (with_reducible refine Below.drew ?_)))).size)))
    clear hb9
    refine hK.out _ _ HBn.out (fun hHeld => ?_)
    clear hK K
    (try clear HB9)
    have HB9 := HBn
    clear HBn
    (repeat (first | simp only [Act.put] | simp only [List.setIfInBounds_toArray] | simp only [List.set_cons_zero] | simp only [List.set_cons_succ]))
    cases eq
    · skip
      have HQ := Lib.hid (HN1.out HRN.out HEQ.out)
      refine takeD (i := 10) (d := some 24) (v := ?_) rfl rfl (by kernel_rfl) (by kernel_rfl) (by kernel_rfl) (fun _ _ _ h => h) (Or.inl ⟨by rfl, ?_⟩) hHeld ?_
      rotate_left 1
      focus (intro w hSw; (try dsimp only at hSw); go_simp; (try with_reducible rfl))
      (repeat (first | simp only [Act.put] | simp only [List.setIfInBounds_toArray] | simp only [List.set_cons_zero] | simp only [List.set_cons_succ]))
      refine takeD (i := 11) (d := some 25) (v := ?_) rfl rfl (by kernel_rfl) (by kernel_rfl) (by kernel_rfl) (fun _ _ _ h => h) (Or.inl ⟨by rfl, ?_⟩) hHeld ?_
      rotate_left 1
      focus (intro w hSw; (try dsimp only at hSw); go_simp; (try with_reducible rfl))
      (repeat (first | simp only [Act.put] | simp only [List.setIfInBounds_toArray] | simp only [List.set_cons_zero] | simp only [List.set_cons_succ]))
      refine takeD (i := 12) (d := some 26) (v := ?_) rfl rfl (by kernel_rfl) (by kernel_rfl) (by kernel_rfl) (fun _ _ _ h => h) (Or.inl ⟨by rfl, ?_⟩) hHeld ?_
      rotate_left 1
      focus (intro w hSw; (try dsimp only at hSw); go_simp; (try with_reducible rfl))
      (repeat (first | simp only [Act.put] | simp only [List.setIfInBounds_toArray] | simp only [List.set_cons_zero] | simp only [List.set_cons_succ]))
      refine takeD (i := 13) (d := some 27) (v := undef) rfl rfl (by kernel_rfl) (by kernel_rfl) (by kernel_rfl) (fun _ _ _ h => h) (Or.inr ⟨by rfl, rfl⟩) hHeld ?_
      (repeat (first | simp only [Act.put] | simp only [List.setIfInBounds_toArray] | simp only [List.set_cons_zero] | simp only [List.set_cons_succ]))
      refine takeD (i := 14) (d := some 28) (v := undef) rfl rfl (by kernel_rfl) (by kernel_rfl) (by kernel_rfl) (fun _ _ _ h => h) (Or.inr ⟨by rfl, rfl⟩) hHeld ?_
      (repeat (first | simp only [Act.put] | simp only [List.setIfInBounds_toArray] | simp only [List.set_cons_zero] | simp only [List.set_cons_succ]))
      refine takeD (i := 15) (d := some 29) (v := undef) rfl rfl (by kernel_rfl) (by kernel_rfl) (by kernel_rfl) (fun _ _ _ h => h) (Or.inr ⟨by rfl, rfl⟩) hHeld ?_
      (repeat (first | simp only [Act.put] | simp only [List.setIfInBounds_toArray] | simp only [List.set_cons_zero] | simp only [List.set_cons_succ]))
      refine takeD (i := 16) (d := some 30) (v := undef) rfl rfl (by kernel_rfl) (by kernel_rfl) (by kernel_rfl) (fun _ _ _ h => h) (Or.inr ⟨by rfl, rfl⟩) hHeld ?_
      (repeat (first | simp only [Act.put] | simp only [List.setIfInBounds_toArray] | simp only [List.set_cons_zero] | simp only [List.set_cons_succ]))
      refine takeD (i := 17) (d := some 31) (v := undef) rfl rfl (by kernel_rfl) (by kernel_rfl) (by kernel_rfl) (fun _ _ _ h => h) (Or.inr ⟨by rfl, rfl⟩) hHeld ?_
      (repeat (first | simp only [Act.put] | simp only [List.setIfInBounds_toArray] | simp only [List.set_cons_zero] | simp only [List.set_cons_succ]))
      refine takeD (i := 18) (d := some 32) (v := undef) rfl rfl (by kernel_rfl) (by kernel_rfl) (by kernel_rfl) (fun _ _ _ h => h) (Or.inr ⟨by rfl, rfl⟩) hHeld ?_
      (repeat (first | simp only [Act.put] | simp only [List.setIfInBounds_toArray] | simp only [List.set_cons_zero] | simp only [List.set_cons_succ]))
      refine takeD (i := 19) (d := some 33) (v := undef) rfl rfl (by kernel_rfl) (by kernel_rfl) (by kernel_rfl) (fun _ _ _ h => h) (Or.inr ⟨by rfl, rfl⟩) hHeld ?_
      (repeat (first | simp only [Act.put] | simp only [List.setIfInBounds_toArray] | simp only [List.set_cons_zero] | simp only [List.set_cons_succ]))
      refine takeD (i := 20) (d := some 34) (v := ?_) rfl rfl (by kernel_rfl) (by kernel_rfl) (by kernel_rfl) (fun _ _ _ h => h) (Or.inl ⟨by rfl, ?_⟩) hHeld ?_
      rotate_left 1
      focus (intro w hSw; (try dsimp only at hSw); go_simp; (try with_reducible rfl))
      (repeat (first | simp only [Act.put] | simp only [List.setIfInBounds_toArray] | simp only [List.set_cons_zero] | simp only [List.set_cons_succ]))
      refine wpAnyH_done (by kernel_rfl) ?_ _
      obtain ⟨W5, hW5⟩ : ∃ W5, W5 = w9 := ⟨_, rfl⟩
      rw [← hW5]
      have hbW := (show Below W.heap.size W W5 by rw [hW5]; exact (by repeat (first | with_reducible exact Below.refl _ _ | with_reducible exact HB9.out | (with_reducible refine Below.drew ?_))))
      clear hW5 hHeld
      have hq5 := (hbW.block _ (lt_heap HQB.out)).trans HQB.out
      have e9 := cell_of (j := 0) hq5 rfl
      have f9 : W5.frozen? ⟨Bq, 0, none⟩ = false := by simp [World.frozen?, hq5]
      have HW5 := Lib.hid hbW
      have HQ5 := Lib.hid hq5
      clear hbW hq5
      gi_wp2_with fail
      refine ⟨(keepsO_below HW5.out).trans (KeepsOthers.setCell _ _ _), KC.setCell (KC.ofBelow HW5.out) (Or.inr rfl) _ _, rfl, HQ.out, ?_, (HBE.out.trans (HW5.out.mono HBE.out.size)).setCell (by show w.heap.size ≤ Bq; omega) _⟩
      rw [Blk_set (j := 0) HQ5.out]; rfl
    refine takeD (i := 10) (d := some 24) (v := ?_) rfl rfl (by kernel_rfl) (by kernel_rfl) (by kernel_rfl) (fun _ _ _ h => h) (Or.inl ⟨by rfl, ?_⟩) hHeld ?_
    rotate_left 1
    focus (intro w hSw; (try dsimp only at hSw); go_simp; (try with_reducible rfl))
    (repeat (first | simp only [Act.put] | simp only [List.setIfInBounds_toArray] | simp only [List.set_cons_zero] | simp only [List.set_cons_succ]))
    refine takeD (i := 11) (d := some 25) (v := ?_) rfl rfl (by kernel_rfl) (by kernel_rfl) (by kernel_rfl) (fun _ _ _ h => h) (Or.inl ⟨by rfl, ?_⟩) hHeld ?_
    rotate_left 1
    focus (intro w hSw; (try dsimp only at hSw); go_simp; (try with_reducible rfl))
    (repeat (first | simp only [Act.put] | simp only [List.setIfInBounds_toArray] | simp only [List.set_cons_zero] | simp only [List.set_cons_succ]))
    refine takeD (i := 12) (d := some 26) (v := ?_) rfl rfl (by kernel_rfl) (by kernel_rfl) (by kernel_rfl) (fun _ _ _ h => h) (Or.inl ⟨by rfl, ?_⟩) hHeld ?_
    rotate_left 1
    focus (intro w hSw; (try dsimp only at hSw); go_simp; (try with_reducible rfl))
    (repeat (first | simp only [Act.put] | simp only [List.setIfInBounds_toArray] | simp only [List.set_cons_zero] | simp only [List.set_cons_succ]))
    refine takeD (i := 13) (d := some 27) (v := ?_) rfl rfl (by kernel_rfl) (by kernel_rfl) (by kernel_rfl) (fun _ _ _ h => h) (Or.inl ⟨by rfl, ?_⟩) hHeld ?_
    rotate_left 1
    focus (intro w hSw; (try dsimp only at hSw); obtain ⟨e8, e0, e1, e2, e3, e4, e5, e6, e7⟩ := HG8.out w hSw; obtain ⟨g0, g1, g2⟩ := HG3.out w hSw; go_simp; (try with_reducible rfl))
    (repeat (first | simp only [Act.put] | simp only [List.setIfInBounds_toArray] | simp only [List.set_cons_zero] | simp only [List.set_cons_succ]))
    refine takeD (i := 14) (d := some 28) (v := ?_) rfl rfl (by kernel_rfl) (by kernel_rfl) (by kernel_rfl) (fun _ _ _ h => h) (Or.inl ⟨by rfl, ?_⟩) hHeld ?_
    rotate_left 1
    focus (intro w hSw; (try dsimp only at hSw); obtain ⟨e8, e0, e1, e2, e3, e4, e5, e6, e7⟩ := HG8.out w hSw; obtain ⟨g0, g1, g2⟩ := HG3.out w hSw; go_simp; (try with_reducible rfl))
    (repeat (first | simp only [Act.put] | simp only [List.setIfInBounds_toArray] | simp only [List.set_cons_zero] | simp only [List.set_cons_succ]))
    refine takeD (i := 15) (d := some 29) (v := ?_) rfl rfl (by kernel_rfl) (by kernel_rfl) (by kernel_rfl) (fun _ _ _ h => h) (Or.inl ⟨by rfl, ?_⟩) hHeld ?_
    rotate_left 1
    focus (intro w hSw; (try dsimp only at hSw); obtain ⟨e8, e0, e1, e2, e3, e4, e5, e6, e7⟩ := HG8.out w hSw; obtain ⟨g0, g1, g2⟩ := HG3.out w hSw; go_simp; (try with_reducible rfl))
    (repeat (first | simp only [Act.put] | simp only [List.setIfInBounds_toArray] | simp only [List.set_cons_zero] | simp only [List.set_cons_succ]))
    refine takeD (i := 16) (d := some 30) (v := ?_) rfl rfl (by kernel_rfl) (by kernel_rfl) (by kernel_rfl) (fun _ _ _ h => h) (Or.inl ⟨by rfl, ?_⟩) hHeld ?_
    rotate_left 1
    focus (intro w hSw; (try dsimp only at hSw); go_simp; (try with_reducible rfl))
    (repeat (first | simp only [Act.put] | simp only [List.setIfInBounds_toArray] | simp only [List.set_cons_zero] | simp only [List.set_cons_succ]))
    refine takeD (i := 17) (d := some 31) (v := ?_) rfl rfl (by kernel_rfl) (by kernel_rfl) (by kernel_rfl) (fun _ _ _ h => h) (Or.inl ⟨by rfl, ?_⟩) hHeld ?_
    rotate_left 1
    focus (intro w hSw; (try dsimp only at hSw); obtain ⟨e8, e0, e1, e2, e3, e4, e5, e6, e7⟩ := HG8.out w hSw; obtain ⟨g0, g1, g2⟩ := HG3.out w hSw; go_simp; (try with_reducible rfl))
    (repeat (first | simp only [Act.put] | simp only [List.setIfInBounds_toArray] | simp only [List.set_cons_zero] | simp only [List.set_cons_succ]))
    refine wpAnyH_ready (rs := [18]) (by kernel_rfl) (by simp) ?_
    refine AllReadyH.cons rfl (fun K hK => ?_) AllReadyH.nil
    go_simp
    go_at_call 31
    refine (CFI.out _ (by repeat (first | with_reducible exact Below.refl _ _ | with_reducible exact HB9.out | (with_reducible refine Below.drew ?_)))).mono ?_
    rintro e w10 ⟨rfl, hb9⟩
    have HBn : Hid (Below W.heap.size W w10) := Lib.hid ((show Below W.heap.size W _ from (by repeat (first | with_reducible exact Below.refl _ _ | with_reducible exact HB9.out | (with_reducible refine Below.drew ?_)))).trans (hb9.mono (show W.heap.size ≤ _ from (show Below W.heap.size W _ from (by repeat (first | with_reducible exact Below.refl _ _ | with_reducible exact HB9.out | (with_reducible refine Below.drew ?_)))).size)))
    clear hb9
    refine hK.out _ _ HBn.out (fun hHeld => ?_)
    clear hK K
    (try clear HB9)
    have HB9 := HBn
    clear HBn
    (repeat (first | simp only [Act.put] | simp only [List.setIfInBounds_toArray] | simp only [List.set_cons_zero] | simp only [List.set_cons_succ]))
    cases ft
    · skip
      have HQ := Lib.hid (HN2.out HRN.out HFT.out)
      refine takeD (i := 19) (d := some 33) (v := ?_) rfl rfl (by kernel_rfl) (by kernel_rfl) (by kernel_rfl) (fun _ _ _ h => h) (Or.inl ⟨by rfl, ?_⟩) hHeld ?_
      rotate_left 1
      focus (intro w hSw; (try dsimp only at hSw); go_simp; (try with_reducible rfl))
      (repeat (first | simp only [Act.put] | simp only [List.setIfInBounds_toArray] | simp only [List.set_cons_zero] | simp only [List.set_cons_succ]))
      refine takeD (i := 20) (d := some 34) (v := ?_) rfl rfl (by kernel_rfl) (by kernel_rfl) (by kernel_rfl) (fun _ _ _ h => h) (Or.inl ⟨by rfl, ?_⟩) hHeld ?_
      rotate_left 1
      focus (intro w hSw; (try dsimp only at hSw); go_simp; (try with_reducible rfl))
      (repeat (first | simp only [Act.put] | simp only [List.setIfInBounds_toArray] | simp only [List.set_cons_zero] | simp only [List.set_cons_succ]))
      refine wpAnyH_done (by kernel_rfl) ?_ _
      obtain ⟨W5, hW5⟩ : ∃ W5, W5 = w10 := ⟨_, rfl⟩
      rw [← hW5]
      have hbW := (show Below W.heap.size W W5 by rw [hW5]; exact (by repeat (first | with_reducible exact Below.refl _ _ | with_reducible exact HB9.out | (with_reducible refine Below.drew ?_))))
      clear hW5 hHeld
      have hq5 := (hbW.block _ (lt_heap HQB.out)).trans HQB.out
      have e9 := cell_of (j := 0) hq5 rfl
      have f9 : W5.frozen? ⟨Bq, 0, none⟩ = false := by simp [World.frozen?, hq5]
      have HW5 := Lib.hid hbW
      have HQ5 := Lib.hid hq5
      clear hbW hq5
      gi_wp2_with fail
      refine ⟨(keepsO_below HW5.out).trans (KeepsOthers.setCell _ _ _), KC.setCell (KC.ofBelow HW5.out) (Or.inr rfl) _ _, rfl, HQ.out, ?_, (HBE.out.trans (HW5.out.mono HBE.out.size)).setCell (by show w.heap.size ≤ Bq; omega) _⟩
      rw [Blk_set (j := 0) HQ5.out]; rfl
    refine takeD (i := 19) (d := some 33) (v := ?_) rfl rfl (by kernel_rfl) (by kernel_rfl) (by kernel_rfl) (fun _ _ _ h => h) (Or.inl ⟨by rfl, ?_⟩) hHeld ?_
    rotate_left 1
    focus (intro w hSw; (try dsimp only at hSw); go_simp; (try with_reducible rfl))
    (repeat (first | simp only [Act.put] | simp only [List.setIfInBounds_toArray] | simp only [List.set_cons_zero] | simp only [List.set_cons_succ]))
    refine takeD (i := 20) (d := some 34) (v := ?_) rfl rfl (by kernel_rfl) (by kernel_rfl) (by kernel_rfl) (fun _ _ _ h => h) (Or.inl ⟨by rfl, ?_⟩) hHeld ?_
    rotate_left 1
    focus (intro w hSw; (try dsimp only at hSw); go_simp; (try with_reducible rfl))
    (repeat (first | simp only [Act.put] | simp only [List.setIfInBounds_toArray] | simp only [List.set_cons_zero] | simp only [List.set_cons_succ]))
    refine wpAnyH_done (by kernel_rfl) ?_ _
    obtain ⟨W5, hW5⟩ : ∃ W5, W5 = w10 := ⟨_, rfl⟩
    rw [← hW5]
    have hbW := (show Below W.heap.size W W5 by rw [hW5]; exact HB9.out)
    clear hW5 hHeld
    have hl5 := (hbW.block _ (lt_heap HLB.out)).trans HLB.out
    have e8 := cell_of (j := 0) hl5 rfl
    have f8 : W5.frozen? ⟨Bl, 0, none⟩ = false := by simp [World.frozen?, hl5]
    have HW5 := Lib.hid hbW
    have HL5 := Lib.hid hl5
    have hci : (r : Int) ≤ (c : Int) := by omega
    have hci2 : (1 : Int) ≤ (c : Int) := by omega
    clear hbW hl5 CE CFI
    have HTL := Lib.hid (HCS.out.tail hr2)
    gi_wp2_with fail
    all_goals
      refine ⟨(keepsO_below HW5.out).trans (KeepsOthers.setCell _ _ _), KC.setCell (KC.ofBelow HW5.out) (Or.inl rfl) _ _, ⟨HOK.out HRN.out HEQ.out HFT.out, ?_⟩⟩
      have hsb := HW5.out
      have hbl := HBE.out.trans (hsb.mono HBE.out.size)
      refine ⟨⟨_, r - 1, _, by rw [List.length_append, List.length_singleton, ← HKP.out]; show r - 1 = _; have := HRL.out; omega, by rw [Blk_set (j := 0) HL5.out]; rfl, ?_⟩, ?_, ?_, ?_, hbl.setCell (by show w.heap.size ≤ Bl; omega) _⟩
      · rw [List.length_append, List.length_singleton, ← HKP.out, ← List.drop_drop]
        have := HTL.out
        first | exact this | (rw [if_neg (by assumption)] at this; exact this) | (obtain rfl : c = 1 := (by first | assumption | omega); exact this)
      · rw [heap_set_if, if_neg (by omega)]; exact (hsb.block _ (lt_heap HQB.out)).trans HQB.out
      · rw [heap_set_if, if_neg (by omega)]; exact (hsb.block _ (lt_heap H5.out)).trans H5.out
      · rw [heap_set_if, if_neg (by omega)]; exact (hsb.block _ (lt_heap H6.out)).trans H6.out
  case done =>
    rintro D xs W hD hS hI hKD
    obtain ⟨h1, ⟨A, r, c, hr, h2, h3⟩, h4, h5, h6, h7⟩ := hI
    have hxl : xs.length = (comb (rivR q) many).length := by rw [← hS, List.length_map]
    have HZ := Lib.hid (show z = decide (r = 0) by
      rw [HCB.out, Bool.eq_iff_iff, Bool.and_eq_true, decide_eq_true_eq, decide_eq_true_eq, List.all_eq_true]
      have hnl := HNL.out
      constructor
      · rintro ⟨e, -⟩
        have := congrArg List.length e
        rw [List.length_map] at this
        omega
      · intro e
        have hcl : cs.length = xs.length := by have := h1.1; omega
        have h9 := h1.2.1
        rw [List.take_of_length_le (by omega), List.take_of_length_le (by omega)] at h9
        refine ⟨h9, fun x hx => ?_⟩
        obtain ⟨i, hi, rfl⟩ := List.getElem_of_mem hx
        have := h1.2.2 i (by omega)
        rwa [cutN_get hi] at this)
    have e8 := cell_of (j := 0) h2 rfl
    have e9 := cell_of (j := 0) h4 rfl
    have f9 : W.frozen? ⟨Bq, 0, none⟩ = false := by simp [World.frozen?, h4]
    have HQB := Lib.hid h4
    have HBE := Lib.hid h7
    have HKD := Lib.hid hKD
    clear h1 h2 h3 h4 h5 h6 h7 hr hS hxl hKD
    have fin : ∀ (y : Bool), y = z → ∀ W4, W4 = W.setCell ⟨Bq, 0, none⟩ (.bool y) → W4.heap[D]? = some (.deferred (some [])) ∧ (W4.putObj D (.deferred none)).cell? ⟨Bq, 0, none⟩ = some (.bool z) ∧ Below w.heap.size w (W4.putObj D (.deferred none)) := fun y hy W4 hW => by
      have hk4 := (KeepsOthers.setCell W ⟨Bq, 0, none⟩ (.bool y)).same D _ HKD.out rfl
      have hb4 := Blk_set (j := 0) HQB.out (.bool y)
      have hB4 := HBE.out.setCell (p := ⟨Bq, 0, none⟩) (by show w.heap.size ≤ Bq; omega) (.bool y)
      rw [← hW] at hk4 hb4 hB4
      refine ⟨hk4, ?_, hB4.grown (grownBy_putObj' W4 D (.deferred none)) hB4.size (fun k e => by cases e; have := HB0.out.size; omega)⟩
      have hb5 : (W4.putObj D (.deferred none)).heap[Bq]? = some (.cells #[.bool y] 4 (0, 0)) := by
        rw [World.putObj_heap_other (fun e => by subst e; rw [hb4] at hk4; cases hk4)]; exact hb4
      rw [← hy]
      exact cell_of (j := 0) hb5 rfl
    have FIN := Lib.hid fin
    clear fin
    by_cases hr0 : r = 0
    · have d0 : ((r : Int) == 0) = true := by rw [beq_iff_eq]; omega
      have d1 : (r == 0) = true := by rw [beq_iff_eq]; omega
      have HQ := Lib.hid (show true = z by rw [HZ.out, decide_eq_true hr0])
      clear hr0
      gi_wp2_with fail
      obtain ⟨k4, y0, hB5⟩ := FIN.out true HQ.out _ rfl
      refine ⟨by simp, .inl ⟨_, _, rfl, run_takeDeferred k4, ?_⟩⟩
      exact ⟨.bool z, by simp [results, Try.results80, go_sem, y0], rfl, hB5⟩
    · have d0 : ((r : Int) == 0) = false := by rw [beq_eq_false_iff_ne]; omega
      have d1 : (r == 0) = false := by rw [beq_eq_false_iff_ne]; omega
      have HQ := Lib.hid (show false = z by rw [HZ.out, decide_eq_false hr0])
      clear hr0
      gi_wp2_with fail
      obtain ⟨k4, y0, hB5⟩ := FIN.out false HQ.out _ rfl
      refine ⟨by simp, .inl ⟨_, _, rfl, run_takeDeferred k4, ?_⟩⟩
      exact ⟨.bool z, by simp [results, Try.results80, go_sem, y0], rfl, hB5⟩
  case stop =>
    rintro D cd W hD ⟨rfl, hz, hq, hb⟩ hKD
    have hb5 : (W.putObj D (.deferred none)).heap[Bq]? = some (.cells #[.bool false] 4 (0, 0)) := by
      rw [World.putObj_heap_other (fun e => by subst e; rw [hq] at hKD; cases hKD)]; exact hq
    have y0 := cell_of (j := 0) hb5 rfl
    have hB5 := hb.grown (grownBy_putObj' W D (.deferred none)) hb.size (fun k e => by cases e; have := HB0.out.size; omega)
    have HKD := Lib.hid hKD
    have HZ := Lib.hid hz
    have HB5 := Lib.hid hB5
    clear hq hb hb5 hKD hz hB5
    gi_wp2_with fail
    refine ⟨by simp, .inl ⟨_, _, rfl, run_takeDeferred HKD.out, ?_⟩⟩
    exact ⟨.bool false, by simp [results, Try.results80, go_sem, y0], ret_bool HZ.out.symm, HB5.out⟩
end Go.Proofs.Ythlnfjbedehjdaa
