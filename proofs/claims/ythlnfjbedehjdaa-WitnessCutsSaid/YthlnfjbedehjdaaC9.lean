/- shown: whether a verdict shows that a place is certain, or out of reach. -/
import Derived.Test.YthlnfjbedehjdaaC6
import Derived.Test.YthlnfjbedehjdaaZf
namespace Go.Proofs.Ythlnfjbedehjdaa
open Go.RowKit Go.Deep Go.Shelf

attribute [local go_sem] Oper.semAt_some
structure VerD where
  kind : Int
  reached : List Int
  missed : List Int
  cuts : List CutD
def IsVer (w : World) (M : Nat → Prop) (v : Value) (x : VerD) : Prop := ∃ rv mv cv, v = .agg #[.int .i64 x.kind, rv, mv, cv] ∧ IsInts w M rv x.reached ∧ IsInts w M mv x.missed ∧ IsCuts w M cv x.cuts
section
variable {w w' : World} {M M' : Nat → Prop} {v : Value} {x : VerD}
theorem IsVer.below (h : IsVer w M v x) (hb : Below w.heap.size w w') : IsVer w' M v x := by
  obtain ⟨rv, mv, cv, e, h1, h2, h3⟩ := h; exact ⟨rv, mv, cv, e, IsSl.below h1 hb, IsSl.below h2 hb, h3.below hb⟩
theorem IsVer.parts (h : IsVer w M v x) : ∃ rA rc mA mc cA cc, v = .agg #[.int .i64 x.kind, .slice rA x.reached.length rc, .slice mA x.missed.length mc, .slice cA x.cuts.length cc] ∧
    IsInts w M (.slice rA x.reached.length rc) x.reached ∧ IsInts w M (.slice mA x.missed.length mc) x.missed ∧ IsCuts w M (.slice cA x.cuts.length cc) x.cuts := by
  obtain ⟨rv, mv, cv, rfl, h1, h2, h3⟩ := h
  obtain ⟨rA, rc, rfl, r1⟩ := id h1
  obtain ⟨mA, mc, rfl, r2⟩ := id h2
  obtain ⟨cA, cc, rfl, r3⟩ := id h3
  exact ⟨rA, rc, mA, mc, cA, cc, rfl, h1, h2, h3⟩
end
/-- a verdict that is small enough to be walked -/
structure FewV (x : VerD) : Prop where
  r : x.reached.length ≤ 1000000
  m : x.missed.length ≤ 1000000
  c : x.cuts.length ≤ 1000000
  cut : ∀ c ∈ x.cuts, c.free.length ≤ 140737488355328 ∧ c.clubs.length ≤ 140737488355328
/-- a completion keeps the place (certain), or misses it -/
def keptB (q : RaceD) (certain : Bool) (o : List Int) : Bool := if certain then !decide (q.place ≤ (manyR q (finR q o) : Int)) else decide (q.place ≤ (moreR q (finR q o) : Int))
def alwaysB (q : RaceD) (certain : Bool) : Bool := (allO q.opn.length).all (keptB q certain)
def shownB (q : RaceD) (certain : Bool) (x : VerD) : Bool :=
  (decide (x.reached.length = 0) && decide (x.missed.length = 0)) && (if halvesB q then cutsB q certain x.cuts else (decide (x.cuts.length = 0) && decide (q.opn.length ≤ 8)) && alwaysB q certain)
theorem completions_any (x0 x1 x2 x3 x4 x5 x6 : Value) (w : World) : Calls Try.prog 81 #[.agg #[x0, x1, x2, x3, x4, x5, x6]] w fun e w' => e = .returned (.func (.func 96) #[] #[.pointer (some ⟨w.heap.size, 0, none⟩)]) ∧ w' = w.alloc (.cells #[x0, x1, x2, x3, x4, x5, x6] 55 (0, 0)) := by
  go_enter Try.func81, Try.ntmps81
  go_wp2_with fail
  go_ret
  exact ⟨rfl, rfl⟩
/-- the boxes of shown -/
def ShnW (w : World) (q : RaceD) (certain : Bool) (Bc Bq : Nat) (cA : Option Addr) (cc : Nat) (pA : Option Addr) (pc : Nat) (oA : Option Addr) (oc : Nat) (W : World) : Prop :=
  W.heap[w.heap.size]? = some (.cells #[.int .i64 q.win, .int .i64 q.draw, .slice cA q.clubs.length cc, .slice pA q.points.length pc, .slice oA q.opn.length oc, .int .i64 q.club, .int .i64 q.place] 55 (0, 0)) ∧ W.heap[Bc]? = some (.cells #[.bool certain] 4 (0, 0)) ∧ W.heap[Bq]? = some (.cells #[.bool false] 4 (0, 0)) ∧ Below w.heap.size w W
theorem ShnW.next {w : World} {q : RaceD} {certain : Bool} {Bc Bq : Nat} {cA : Option Addr} {cc : Nat} {pA : Option Addr} {pc : Nat} {oA : Option Addr} {oc : Nat} {W W' : World} (h : ShnW w q certain Bc Bq cA cc pA pc oA oc W) (hb : Below W.heap.size W W') : ShnW w q certain Bc Bq cA cc pA pc oA oc W' :=
  ⟨(hb.block _ (lt_heap h.1)).trans h.1, (hb.block _ (lt_heap h.2.1)).trans h.2.1, (hb.block _ (lt_heap h.2.2.1)).trans h.2.2.1, h.2.2.2.trans (hb.mono h.2.2.2.size)⟩
set_option maxRecDepth 20000 in
set_option maxHeartbeats 4000000 in
theorem shown_any (w : World) (M M' : Nat → Prop) (v u : Value) (q : RaceD) (certain : Bool) (x : VerD) (h : IsRace w M v q) (h' : IsVer w M' u x) (hv : ValidR q) (h6 : q.clubs.length ≤ 6) (hf : FewV x) :
    Calls Try.prog 61 #[v, .bool certain, u] w fun e w' => e = .returned (.bool (shownB q certain x)) ∧ Below w.heap.size w w' := by
  have CB := fun (W : World) (hB : Below w.heap.size w W) => Lib.hid (byFlow_any W M _ q (h.below hB) hv.size h6)
  have CSr := fun (W : World) (hB : Below w.heap.size w W) => Lib.hid (bySearch_any W M _ q (h.below hB) (by have := hv.size.opn; omega))
  have CA := fun (W : World) (hB : Below w.heap.size w W) (N : Nat → Prop) (u : Value) (o : List Int) (ho : IsInts W N u o) (hl : o.length = q.opn.length) => Lib.hid (above_any W M N _ u q o (h.below hB) ho hv hl)
  have HR := Lib.hid h
  obtain ⟨cA, cc, pA, pc, oA, oc, rfl, -⟩ := h.parts
  obtain ⟨rA, rc, mA, mc, kA, kc, rfl, -, -, hcu⟩ := h'.parts
  have CC := fun (W : World) (hB : Below w.heap.size w W) => Lib.hid (cuts_any W M M' _ _ q certain x.cuts (HR.out.below hB) (hcu.below hB) hv hf.cut)
  have HV := Lib.hid hv
  have hf1 := hf.r
  have hf2 := hf.m
  have hf3 := hf.c
  have hop := hv.size.opn
  have hp1 := hv.size.p1
  have hpn : q.place ≤ 24 := by have := hv.size.pn; have := hv.size.n24; omega
  obtain ⟨z, hz⟩ : ∃ z, z = shownB q certain x := ⟨_, rfl⟩
  obtain ⟨nr, hnr⟩ : ∃ nr, nr = x.reached.length := ⟨_, rfl⟩
  obtain ⟨nm, hnm⟩ : ∃ nm, nm = x.missed.length := ⟨_, rfl⟩
  obtain ⟨nc, hnc⟩ : ∃ nc, nc = x.cuts.length := ⟨_, rfl⟩
  obtain ⟨no, hno⟩ : ∃ no, no = q.opn.length := ⟨_, rfl⟩
  have HZ := Lib.hid (show z = ((decide (nr = 0) && decide (nm = 0)) && (if halvesB q then cutsB q certain x.cuts else (decide (nc = 0) && decide (no ≤ 8)) && alwaysB q certain)) by rw [hz, hnr, hnm, hnc, hno]; rfl)
  rw [← hz]
  rw [← hnr, ← hnm, ← hnc]
  rw [← hnr] at hf1
  rw [← hnm] at hf2
  rw [← hnc] at hf3 CC
  have CSr := fun (W : World) (hB : Below w.heap.size w W) => Lib.hid ((CSr W hB).out.mono fun e w' h => And.intro (show e = .returned (.bool (decide (no ≤ 8))) by rw [hno]; exact h.1) h.2)
  have HNO := Lib.hid hno
  clear h h' hv hf hz hnr hnm hnc hno hcu h6
  refine (callsIn_wide (n := 6)).1 ?_
  refine callsIn_of_wp_marks Try.func61 rfl trivial ?_ rfl
  simp only [Try.ntmps61, List.size_toArray, List.length_cons, List.length_nil, Nat.reduceAdd, Nat.reduceSub, Array.replicate_succ, Array.replicate_zero, List.push_toArray, List.append_toArray, List.nil_append, List.cons_append]
  have hsum : IntKind.i64.wrap ((nr : Int) + (nm : Int)) = (nr : Int) + (nm : Int) := IntWalk.i64_in _ (by omega)
  by_cases hrm : nr = 0 ∧ nm = 0
  case neg =>
    have hpos : (0 : Int) < (nr : Int) + (nm : Int) := by omega
    have hpos2 : 0 < nr + nm := by omega
    have HQ := Lib.hid (show z = false by
      rw [HZ.out, Bool.eq_false_iff]; intro e; simp only [Bool.and_eq_true, decide_eq_true_eq] at e; exact hrm e.1)
    clear hrm
    gi_wp2_with fail
    refine nameG (w := ((((w.alloc (.cells #[.int .i64 q.win, .int .i64 q.draw, .slice cA q.clubs.length cc, .slice pA q.points.length pc, .slice oA q.opn.length oc, .int .i64 q.club, .int .i64 q.place] 55 (0, 0))).alloc (.cells #[.bool certain] 4)).alloc (.cells #[.int .i64 x.kind, .slice rA nr rc, .slice mA nm mc, .slice kA nc kc] 35 (0, 0))).alloc (.cells #[.bool false] 4))) fun W1 hW1 => ?_
    have hb1 : Below w.heap.size w W1 := by rw [hW1.out]; exact ((((Below.refl _ _).alloc (Nat.le_refl _) _).alloc (by simp) _).alloc (by simp; omega) _).alloc (by simp; omega) _
    have k3 : W1.heap[w.heap.size + 1 + 1 + 1]? = some (.cells #[.bool false] 4 (0, 0)) := by rw [hW1.out]; simp only [heap_alloc_if, World.size_alloc]; rw [if_pos trivial]
    have y0 := cell_of (j := 0) k3 rfl
    clear hW1
    exact ⟨.bool false, by simp [results, Try.results61, go_sem, y0], ret_bool HQ.out.symm, hb1⟩
  obtain ⟨hr0, hm0⟩ := hrm
  have hZ2 : z = (if halvesB q then cutsB q certain x.cuts else (decide (nc = 0) && decide (no ≤ 8)) && alwaysB q certain) := by rw [HZ.out, decide_eq_true hr0, decide_eq_true hm0]; rfl
  have HZ2 := Lib.hid hZ2
  subst hr0 hm0
  clear hZ2 hsum
  gi_wp2_with fail
  refine ⟨trivial, callsIn_wide.2 ?_⟩
  refine nameW fun W1 hW1 => ?_
  have hb1 : Below w.heap.size w W1 := by rw [hW1.out]; exact ((((Below.refl _ _).alloc (Nat.le_refl _) _).alloc (by simp) _).alloc (by simp; omega) _).alloc (by simp; omega) _
  have k0 : W1.heap[w.heap.size]? = some (.cells #[.int .i64 q.win, .int .i64 q.draw, .slice cA q.clubs.length cc, .slice pA q.points.length pc, .slice oA q.opn.length oc, .int .i64 q.club, .int .i64 q.place] 55 (0, 0)) := by rw [hW1.out]; simp only [heap_alloc_if, World.size_alloc]; rw [if_neg (by omega), if_neg (by omega), if_neg (by omega), if_pos trivial]
  have k1 : W1.heap[w.heap.size + 1]? = some (.cells #[.bool certain] 4 (0, 0)) := by rw [hW1.out]; simp only [heap_alloc_if, World.size_alloc]; rw [if_neg (by omega), if_neg (by omega), if_pos trivial]
  have k2 : W1.heap[w.heap.size + 1 + 1]? = some (.cells #[.int .i64 x.kind, .slice rA 0 rc, .slice mA 0 mc, .slice kA nc kc] 35 (0, 0)) := by rw [hW1.out]; simp only [heap_alloc_if, World.size_alloc]; rw [if_neg (by omega), if_pos trivial]
  have k3 : W1.heap[w.heap.size + 1 + 1 + 1]? = some (.cells #[.bool false] 4 (0, 0)) := by rw [hW1.out]; simp only [heap_alloc_if, World.size_alloc]; rw [if_pos trivial]
  obtain ⟨Bq, hBq⟩ : ∃ Bq, Bq = w.heap.size + 1 + 1 + 1 := ⟨_, rfl⟩
  rw [← hBq] at k3 ⊢
  obtain ⟨Bv, hBv⟩ : ∃ Bv, Bv = w.heap.size + 1 + 1 := ⟨_, rfl⟩
  rw [← hBv] at k2 ⊢
  obtain ⟨Bc, hBc⟩ : ∃ Bc, Bc = w.heap.size + 1 := ⟨_, rfl⟩
  rw [← hBc] at k1 ⊢
  have hw0 : w.heap.size < Bc := by omega
  have hw1 : Bc < Bv := by omega
  have hw2 : Bv < Bq := by omega
  have hn1 : Bq < W1.heap.size := lt_heap k3
  have HBL := Lib.hid (show ∀ W', Below W1.heap.size W1 W' → Below w.heap.size w W' from fun W' h => hb1.trans (h.mono hb1.size))
  have HCQ := Lib.hid (show ∀ W', Below W1.heap.size W1 W' → W'.heap[Bq]? = some (.cells #[.bool false] 4 (0, 0)) from fun W' h => (h.block _ (lt_heap k3)).trans k3)
  have HC0 := Lib.hid (show ∀ W', Below W1.heap.size W1 W' → ShnW w q certain Bc Bq cA cc pA pc oA oc W' from fun W' h => ⟨(h.block _ (lt_heap k0)).trans k0, (h.block _ (lt_heap k1)).trans k1, (h.block _ (lt_heap k3)).trans k3, hb1.trans (h.mono hb1.size)⟩)
  have HC := Lib.hid (show ∀ W', Below W1.heap.size W1 W' → (W'.cell? ⟨w.heap.size, 0, none⟩ = some (.int .i64 q.win) ∧ W'.cell? ⟨w.heap.size, 1, none⟩ = some (.int .i64 q.draw) ∧ W'.cell? ⟨w.heap.size, 2, none⟩ = some (.slice cA q.clubs.length cc) ∧ W'.cell? ⟨w.heap.size, 3, none⟩ = some (.slice pA q.points.length pc) ∧ W'.cell? ⟨w.heap.size, 4, none⟩ = some (.slice oA q.opn.length oc) ∧ W'.cell? ⟨w.heap.size, 5, none⟩ = some (.int .i64 q.club) ∧ W'.cell? ⟨w.heap.size, 6, none⟩ = some (.int .i64 q.place) ∧ W'.cell? ⟨Bc, 0, none⟩ = some (.bool certain) ∧ W'.cell? ⟨Bv, 0, none⟩ = some (.int .i64 x.kind) ∧ W'.cell? ⟨Bv, 1, none⟩ = some (.slice rA 0 rc) ∧ W'.cell? ⟨Bv, 2, none⟩ = some (.slice mA 0 mc) ∧ W'.cell? ⟨Bv, 3, none⟩ = some (.slice kA nc kc) ∧ W'.cell? ⟨Bq, 0, none⟩ = some (.bool false) ∧ W'.frozen? ⟨Bq, 0, none⟩ = false) from fun W' h => by
    have e0 := (h.block _ (lt_heap k0)).trans k0
    have e1 := (h.block _ (lt_heap k1)).trans k1
    have e2 := (h.block _ (lt_heap k2)).trans k2
    have e3 := (h.block _ (lt_heap k3)).trans k3
    exact ⟨cell_of e0 rfl, cell_of e0 rfl, cell_of e0 rfl, cell_of e0 rfl, cell_of e0 rfl, cell_of e0 rfl, cell_of e0 rfl, cell_of e1 rfl, cell_of e2 rfl, cell_of e2 rfl, cell_of e2 rfl, cell_of e2 rfl, cell_of e3 rfl, by simp [World.frozen?, e3]⟩)
  clear hW1 hb1 k0 k1 k2 k3 hBq hBv hBc
  refine (CB _ (HBL.out _ (Below.refl _ _))).out.mono ?_
  rintro e W2 ⟨rfl, hb⟩
  have HB2 := Lib.hid hb
  clear hb CB
  obtain ⟨e0, e1, e2, e3, e4, e5, e6, e7, e8, e9, ea, eb, ec, fq⟩ := HC.out _ HB2.out
  cases hhv : halvesB q
  case true =>
    have HQ := Lib.hid (show z = cutsB q certain x.cuts by rw [HZ2.out, hhv]; rfl)
    clear hhv
    gi_wp2_with fail
    refine ⟨trivial, callsIn_wide.2 ?_⟩
    refine (CC _ (HBL.out _ HB2.out)).out.mono ?_
    rintro e W3 ⟨rfl, hb⟩
    have HB3 := Lib.hid (HB2.out.trans (hb.mono HB2.out.size))
    clear e0 e1 e2 e3 e4 e5 e6 e7 e8 e9 ea eb ec fq
    clear hb
    obtain ⟨e0, e1, e2, e3, e4, e5, e6, e7, e8, e9, ea, eb, ec, fq⟩ := HC.out _ HB3.out
    gi_wp2_with fail
    have hq5 := (HCQ.out _ HB3.out)
    have y0 : (W3.setCell ⟨Bq, 0, none⟩ (.bool (cutsB q certain x.cuts))).cell? ⟨Bq, 0, none⟩ = some (.bool (cutsB q certain x.cuts)) := cell_of (j := 0) (Blk_set (j := 0) hq5 (.bool (cutsB q certain x.cuts))) rfl
    exact ⟨.bool (cutsB q certain x.cuts), by simp [results, Try.results61, go_sem, y0], ret_bool HQ.out.symm, (HBL.out _ HB3.out).setCell (by show w.heap.size ≤ Bq; omega) _⟩
  have HZ3 := Lib.hid (show z = ((decide (nc = 0) && decide (no ≤ 8)) && alwaysB q certain) by rw [HZ2.out, hhv]; rfl)
  clear hhv HZ2 CC
  by_cases hnc : nc = 0
  case neg =>
    have hpos : (0 : Int) < (nc : Int) := by omega
    have hpos2 : 0 < nc := by omega
    have HQ := Lib.hid (show z = false by rw [HZ3.out, decide_eq_false hnc]; rfl)
    clear hnc
    gi_wp2_with fail
    refine ⟨trivial, ?_⟩
    gi_wp2_with fail
    have hq5 := (HCQ.out _ HB2.out)
    have y0 : (W2.setCell ⟨Bq, 0, none⟩ (.bool false)).cell? ⟨Bq, 0, none⟩ = some (.bool false) := cell_of (j := 0) (Blk_set (j := 0) hq5 (.bool false)) rfl
    exact ⟨.bool false, by simp [results, Try.results61, go_sem, y0], ret_bool HQ.out.symm, (HBL.out _ HB2.out).setCell (by show w.heap.size ≤ Bq; omega) _⟩
  have HNC := Lib.hid hnc
  subst hnc
  gi_wp2_with fail
  refine ⟨trivial, callsIn_wide.2 ?_⟩
  refine (CSr _ (HBL.out _ HB2.out)).out.mono ?_
  rintro e W3 ⟨rfl, hb⟩
  have HB3 := Lib.hid (HB2.out.trans (hb.mono HB2.out.size))
  clear e0 e1 e2 e3 e4 e5 e6 e7 e8 e9 ea eb ec fq
  clear hb CSr
  obtain ⟨e0, e1, e2, e3, e4, e5, e6, e7, e8, e9, ea, eb, ec, fq⟩ := HC.out _ HB3.out
  by_cases hn8 : no ≤ 8
  case neg =>
    have HQ := Lib.hid (show z = false by rw [HZ3.out, decide_eq_false hn8, Bool.and_false]; rfl)
    rw [decide_eq_false hn8]
    clear hn8
    gi_wp2_with fail
    have hq5 := (HCQ.out _ HB3.out)
    have y0 : (W3.setCell ⟨Bq, 0, none⟩ (.bool false)).cell? ⟨Bq, 0, none⟩ = some (.bool false) := cell_of (j := 0) (Blk_set (j := 0) hq5 (.bool false)) rfl
    exact ⟨.bool false, by simp [results, Try.results61, go_sem, y0], ret_bool HQ.out.symm, (HBL.out _ HB3.out).setCell (by show w.heap.size ≤ Bq; omega) _⟩
  rw [decide_eq_true hn8]
  have HZ4 := Lib.hid (show z = alwaysB q certain by rw [HZ3.out, decide_eq_true hn8]; rfl)
  clear HZ3
  gi_wp2_with fail
  refine ⟨trivial, callsIn_wide.2 ?_⟩
  refine (completions_any _ _ _ _ _ _ _ _).mono ?_
  rintro e W0 ⟨rfl, hW0⟩
  have hb0 : Below W3.heap.size W3 W0 := by rw [hW0]; exact (Below.refl _ _).alloc (Nat.le_refl _) _
  have kr : W0.heap[W3.heap.size]? = some (.cells #[.int .i64 q.win, .int .i64 q.draw, .slice cA q.clubs.length cc, .slice pA q.points.length pc, .slice oA q.opn.length oc, .int .i64 q.club, .int .i64 q.place] 55 (0, 0)) := by rw [hW0]; exact heap_alloc_new _ _
  have HS0 := Lib.hid (show ShnW w q certain Bc Bq cA cc pA pc oA oc W0 from (HC0.out _ HB3.out).next hb0)
  have hz3 := HB3.out.size
  have hz0 := lt_heap kr
  have KR := Lib.hid kr
  clear e0 e1 e2 e3 e4 e5 e6 e7 e8 e9 ea eb ec fq
  clear hW0 hb0 kr HC HCQ HC0 HB2
  gi_wp2_with fail
  refine wpIn_rangeRT (gf := 96) (lb := #[.pointer (some ⟨W3.heap.size, 0, none⟩)]) rfl (enters_of Try.func96 (by kernel_rfl) rfl) (encs := encS) (fun _ => rfl)
    (fun pre W => ShnW w q certain Bc Bq cA cc pA pc oA oc W ∧ Hid (∀ y ∈ pre.map Sy.set, keptB q certain y = true) ∧ Hid (W3.heap.size < W.heap.size)) (fun cd W => cd = .ret ∧ z = false ∧ W.heap[Bq]? = some (.cells #[.bool false] 4 (0, 0)) ∧ Below w.heap.size w W)
    (RSy (fun b => b = Bq) (allO no)) (Kp := KC (fun b => b = Bq)) (S := fun xs => xs.map Sy.set = allO no) ?hIq ?hXq (RSy.quiet _ _ _) ?hIb ?hXb ?h0 ?hseq KC.trans (fun W l o o' _ h1 h2 _ => kc_b W l o o' h1 h2) ?a1 ?assign ?body ?done ?stop
  case assign =>
    intro l x W K hK
    simp only [encS]
    gi_wp2
    exact hK
  case hIq =>
    rintro pre W l o o' hl ⟨⟨h1, h2, h3, h4⟩, h5, h6⟩ ho hc
    have other : ∀ {k : Nat} {cs : Array Value} {t : TypeId}, W.heap[k]? = some (.cells cs t (0, 0)) → (W.putObj l o').heap[k]? = some (.cells cs t (0, 0)) := fun h => by
      rw [World.putObj_heap_other (fun e => by subst e; rw [h] at ho; cases ho; cases hc)]; exact h
    exact ⟨⟨other h1, other h2, other h3, h4.grown (grownBy_putObj' W l o') (by have := h4.size; omega) (fun k e => by cases e; have := HS0.out.2.2.2.size; omega)⟩, h5, Lib.hid (by have := h6.out; simp; omega)⟩
  case hXq =>
    rintro cd W l o o' hl ⟨h1, h2, h3, h4⟩ ho hc
    refine ⟨h1, h2, ?_, h4.grown (grownBy_putObj' W l o') (by have := h4.size; omega) (fun k e => by cases e; have := HS0.out.2.2.2.size; omega)⟩
    rw [World.putObj_heap_other (fun e => by subst e; rw [h3] at ho; cases ho; cases hc)]; exact h3
  case hIb =>
    rintro pre A B ⟨⟨h1, h2, h3, h4⟩, h5, h6⟩ hB
    exact ⟨⟨(hB.block _ (by omega)).trans h1, (hB.block _ (by omega)).trans h2, (hB.block _ (by omega)).trans h3, h4.trans (hB.mono (by omega))⟩, h5, Lib.hid (Nat.lt_of_lt_of_le h6.out hB.size)⟩
  case hXb =>
    rintro cd A B ⟨h1, h2, h3, h4⟩ hB
    exact ⟨h1, h2, (hB.block _ (by omega)).trans h3, h4.trans (hB.mono (by omega))⟩
  case h0 => exact fun W hW => ⟨HS0.out.next hW, Lib.hid (fun y hy => by cases hy), Lib.hid (Nat.lt_of_lt_of_le hz0 hW.size)⟩
  case hseq => exact compl1_seq _ W3.heap.size no _ oA oc W0 (by rw [HNO.out]; exact cell_of KR.out rfl) (fun b h => by subst h; omega) (by omega)
  case body =>
    rintro l pre ⟨xv, xs⟩ W ⟨hsh, hkp, hsz⟩ ⟨⟨rest, hrest⟩, hx⟩
    obtain ⟨xA, xc, hxv, -⟩ := id hx
    dsimp only at hxv hrest
    obtain rfl := hxv
    have hxl : xs.length = q.opn.length := by rw [← HNO.out]; exact ((allO_mem no xs).1 (by rw [hrest]; simp)).1
    have HKB := Lib.hid (show keptB q certain xs = false → z = false from fun e => by
      rw [HZ4.out]
      unfold alwaysB
      rw [List.all_eq_false]
      exact ⟨xs, by rw [← HNO.out, hrest]; simp, by rw [e]; simp⟩)
    have CX := Lib.hid (CA W hsh.2.2.2 _ _ xs hx hxl).out
    rw [hxl] at CX
    have HSH := Lib.hid hsh
    have r0 := cell_of (j := 0) hsh.1 rfl
    have r1 := cell_of (j := 1) hsh.1 rfl
    have r2 := cell_of (j := 2) hsh.1 rfl
    have r3 := cell_of (j := 3) hsh.1 rfl
    have r4 := cell_of (j := 4) hsh.1 rfl
    have r5 := cell_of (j := 5) hsh.1 rfl
    have r6 := cell_of (j := 6) hsh.1 rfl
    rw [hxl]
    clear hsh hx hrest hxl
    gi_wp2_with fail
    refine ⟨trivial, CallsIn.inRound l (callsIn_wide.2 ?_)⟩
    refine CX.out.mono ?_
    rintro e W5 ⟨rfl, hb⟩
    have HW5 := Lib.hid hb
    have HS5 := Lib.hid (HSH.out.next hb)
    clear hb r0 r1 r2 r3 r4 r5 r6 CX
    have r6 := cell_of (j := 6) HS5.out.1 rfl
    have rc := cell_of (j := 0) HS5.out.2.1 rfl
    have rq := cell_of (j := 0) HS5.out.2.2.1 rfl
    have fq : W5.frozen? ⟨Bq, 0, none⟩ = false := by simp [World.frozen?, HS5.out.2.2.1]
    obtain ⟨more, hmo⟩ : ∃ y, y = moreR q (finR q xs) := ⟨_, rfl⟩
    obtain ⟨many, hma⟩ : ∃ y, y = manyR q (finR q xs) := ⟨_, rfl⟩
    have HKE := Lib.hid (show keptB q certain xs = if certain then !decide (q.place ≤ (many : Int)) else decide (q.place ≤ (more : Int)) by rw [hmo, hma]; rfl)
    rw [← hmo, ← hma]
    clear hmo hma
    cases certain
    · skip
      by_cases ht : (more : Int) < q.place
      · have dt : decide ((more : Int) < q.place) = true := by rw [decide_eq_true_eq]; exact ht
        have HQ := Lib.hid (HKB.out (by rw [HKE.out]; simp only [if_false, Bool.false_eq_true]; exact decide_eq_false (by omega)))
        clear ht
        gi_wp2_with fail
        refine ⟨(keepsO_below HW5.out).trans (KeepsOthers.setCell _ _ _), KC.setCell (X := fun b => b = Bq) (KC.ofBelow HW5.out) (g := Bq) rfl _ _, rfl, HQ.out, ?_, HS5.out.2.2.2.setCell (by show w.heap.size ≤ Bq; omega) _⟩
        rw [Blk_set (j := 0) HS5.out.2.2.1]; rfl
      · have dt : decide ((more : Int) < q.place) = false := by rw [decide_eq_false_iff_not]; exact ht
        have HKT := Lib.hid (show keptB q false xs = true by rw [HKE.out]; simp only [if_false, Bool.false_eq_true]; exact decide_eq_true (by omega))
        clear ht
        gi_wp2_with fail
        refine ⟨keepsO_below HW5.out, KC.ofBelow HW5.out, HS5.out, Lib.hid (fun y hy => ?_), Lib.hid (Nat.lt_of_lt_of_le hsz.out HW5.out.size)⟩
        rw [List.map_append, List.mem_append] at hy
        rcases hy with hy | hy
        · exact hkp.out y hy
        · rw [List.map_singleton, List.mem_singleton] at hy
          rw [hy]; exact HKT.out
    · skip
      by_cases ht : q.place ≤ (many : Int)
      · have dt : decide (q.place ≤ (many : Int)) = true := by rw [decide_eq_true_eq]; exact ht
        have HQ := Lib.hid (HKB.out (by rw [HKE.out]; simp only [if_true]; rw [decide_eq_true ht]; rfl))
        clear ht
        gi_wp2_with fail
        refine ⟨(keepsO_below HW5.out).trans (KeepsOthers.setCell _ _ _), KC.setCell (X := fun b => b = Bq) (KC.ofBelow HW5.out) (g := Bq) rfl _ _, rfl, HQ.out, ?_, HS5.out.2.2.2.setCell (by show w.heap.size ≤ Bq; omega) _⟩
        rw [Blk_set (j := 0) HS5.out.2.2.1]; rfl
      · have dt : decide (q.place ≤ (many : Int)) = false := by rw [decide_eq_false_iff_not]; exact ht
        have HKT := Lib.hid (show keptB q true xs = true by rw [HKE.out]; simp only [if_true]; rw [decide_eq_false ht]; rfl)
        clear ht
        gi_wp2_with fail
        refine ⟨keepsO_below HW5.out, KC.ofBelow HW5.out, HS5.out, Lib.hid (fun y hy => ?_), Lib.hid (Nat.lt_of_lt_of_le hsz.out HW5.out.size)⟩
        rw [List.map_append, List.mem_append] at hy
        rcases hy with hy | hy
        · exact hkp.out y hy
        · rw [List.map_singleton, List.mem_singleton] at hy
          rw [hy]; exact HKT.out
  case done =>
    rintro D xs W hD hS ⟨hsh, hkp, hsz⟩ hKD
    have HQ := Lib.hid (show z = true by
      rw [HZ4.out]; unfold alwaysB; rw [List.all_eq_true, ← HNO.out, ← hS]; exact hkp.out)
    have rq := cell_of (j := 0) hsh.2.2.1 rfl
    have fq : W.frozen? ⟨Bq, 0, none⟩ = false := by simp [World.frozen?, hsh.2.2.1]
    have HSH := Lib.hid hsh
    have HKD := Lib.hid hKD
    clear hsh hkp hS hKD
    gi_wp2_with fail
    have hk4 := (KeepsOthers.setCell W ⟨Bq, 0, none⟩ (.bool true)).same D _ HKD.out rfl
    have hb4 := Blk_set (j := 0) HSH.out.2.2.1 (.bool true)
    have hB4 := HSH.out.2.2.2.setCell (p := ⟨Bq, 0, none⟩) (by show w.heap.size ≤ Bq; omega) (.bool true)
    generalize W.setCell _ _ = W4 at hk4 hb4 hB4 ⊢
    have hB5 := hB4.grown (grownBy_putObj' W4 D (.deferred none)) hB4.size (fun k e => by cases e; have := HS0.out.2.2.2.size; omega)
    have hb5 : (W4.putObj D (.deferred none)).heap[Bq]? = some (.cells #[.bool true] 4 (0, 0)) := by
      rw [World.putObj_heap_other (fun e => by subst e; rw [hb4] at hk4; cases hk4)]; exact hb4
    have y0 := cell_of (j := 0) hb5 rfl
    refine ⟨by simp, .inl ⟨_, _, rfl, run_takeDeferred hk4, ?_⟩⟩
    exact ⟨.bool true, by simp [results, Try.results61, go_sem, y0], ret_bool HQ.out.symm, hB5⟩
  case stop =>
    rintro D cd W hD ⟨rfl, hz, hq, hb⟩ hKD
    have hb5 : (W.putObj D (.deferred none)).heap[Bq]? = some (.cells #[.bool false] 4 (0, 0)) := by
      rw [World.putObj_heap_other (fun e => by subst e; rw [hq] at hKD; cases hKD)]; exact hq
    have y0 := cell_of (j := 0) hb5 rfl
    have hB5 := hb.grown (grownBy_putObj' W D (.deferred none)) hb.size (fun k e => by cases e; have := HS0.out.2.2.2.size; omega)
    have HKD := Lib.hid hKD
    have HQ := Lib.hid hz
    have HB5 := Lib.hid hB5
    clear hq hb hb5 hKD hz hB5
    gi_wp2_with fail
    refine ⟨by simp, .inl ⟨_, _, rfl, run_takeDeferred HKD.out, ?_⟩⟩
    exact ⟨.bool false, by simp [results, Try.results61, go_sem, y0], ret_bool HQ.out.symm, HB5.out⟩
end Go.Proofs.Ythlnfjbedehjdaa
