/- Lists of cuts in memory; byFlow, bySearch. -/
import Derived.Test.YthlnfjbedehjdaaC4
namespace Go.Proofs.Ythlnfjbedehjdaa
open Go.RowKit Go.Deep Go.Shelf

def cutN (cs : List CutD) (i : Nat) : CutD := cs.getD i ⟨[], [], []⟩
/-- a slice of cuts: its cells (three to a cut), and what they stand for -/
structure CutsAt (w : World) (M : Nat → Prop) (b off : Nat) (cs : List CutD) : Prop where
  blk : M b
  at_ : ∀ i, i < cs.length → ∃ fA fc uA uc gA gc, w.cell? ⟨b, off + i * 3, none⟩ = some (.slice fA (cutN cs i).free.length fc) ∧ w.cell? ⟨b, off + i * 3 + 1, none⟩ = some (.slice uA (cutN cs i).clubs.length uc) ∧ w.cell? ⟨b, off + i * 3 + 2, none⟩ = some (.slice gA (cutN cs i).games.length gc) ∧
    IsInts w M (.slice fA (cutN cs i).free.length fc) (cutN cs i).free ∧ IsInts w M (.slice uA (cutN cs i).clubs.length uc) (cutN cs i).clubs ∧ IsInts w M (.slice gA (cutN cs i).games.length gc) (cutN cs i).games
def IsCuts (w : World) (M : Nat → Prop) (v : Value) (cs : List CutD) : Prop := ∃ A c, v = .slice A cs.length c ∧ cs.length ≤ c ∧ c ≤ 9223372036854775807 ∧ (0 < cs.length → ∃ b off, A = some ⟨b, off, none⟩ ∧ CutsAt w M b off cs)
section
variable {w w' : World} {M M' : Nat → Prop} {v : Value} {cs : List CutD} {X : Nat → Prop}
theorem IsInts.keepC {xs : List Int} (h : IsInts w M v xs) (hk : ∀ p u, M p.block → w.cell? p = some u → w'.cell? p = some u) : IsInts w' M v xs := by
  obtain ⟨A, c, e, h1, h2, h3⟩ := h
  refine ⟨A, c, e, h1, h2, fun hn => ?_⟩
  obtain ⟨b, off, e, hb, hc⟩ := h3 hn
  exact ⟨b, off, e, hb, fun i j hi hj => hk _ _ hb (hc i j hi hj)⟩
theorem CutsAt.keepC {b off : Nat} (h : CutsAt w M b off cs) (hk : ∀ p u, M p.block → w.cell? p = some u → w'.cell? p = some u) : CutsAt w' M b off cs :=
  ⟨h.blk, fun i hi => by
    obtain ⟨fA, fc, uA, uc, gA, gc, h1, h2, h3, h4, h5, h6⟩ := h.at_ i hi
    exact ⟨fA, fc, uA, uc, gA, gc, hk _ _ h.blk h1, hk _ _ h.blk h2, hk _ _ h.blk h3, h4.keepC hk, h5.keepC hk, h6.keepC hk⟩⟩
theorem IsCuts.keepC (h : IsCuts w M v cs) (hk : ∀ p u, M p.block → w.cell? p = some u → w'.cell? p = some u) : IsCuts w' M v cs := by
  obtain ⟨A, c, e, h1, h2, h3⟩ := h
  refine ⟨A, c, e, h1, h2, fun hn => ?_⟩
  obtain ⟨b, off, e, h4⟩ := h3 hn
  exact ⟨b, off, e, h4.keepC hk⟩
theorem IsCuts.below (h : IsCuts w M v cs) (hb : Below w.heap.size w w') : IsCuts w' M v cs := h.keepC fun p _ _ hp => (hb.cell (p := p) (lt_of_cell hp)).trans hp
theorem IsCuts.kc (h : IsCuts w (fun b => ¬ X b) v cs) (k : KC X w w') : IsCuts w' (fun b => ¬ X b) v cs := h.keepC fun _ _ hM hp => k.cell hp hM
theorem IsInts.monoC {xs : List Int} (h : IsInts w M v xs) (hM : ∀ b, b < w.heap.size → M b → M' b) : IsInts w M' v xs := IsSl.mono h hM (by omega)
theorem IsCuts.mono (h : IsCuts w M v cs) (hM : ∀ b, b < w.heap.size → M b → M' b) : IsCuts w M' v cs := by
  obtain ⟨A, c, e, h1, h2, h3⟩ := h
  refine ⟨A, c, e, h1, h2, fun hn => ?_⟩
  obtain ⟨b, off, e, h4⟩ := h3 hn
  refine ⟨b, off, e, hM b ?_ h4.blk, fun i hi => ?_⟩
  · obtain ⟨_, _, _, _, _, _, h1, -⟩ := h4.at_ 0 hn
    exact lt_of_cell h1
  · obtain ⟨fA, fc, uA, uc, gA, gc, h1, h2, h3, h4, h5, h6⟩ := h4.at_ i hi
    exact ⟨fA, fc, uA, uc, gA, gc, h1, h2, h3, h4.monoC hM, h5.monoC hM, h6.monoC hM⟩
theorem IsCuts.len (h : IsCuts w M v cs) : ∃ A c, v = .slice A cs.length c ∧ cs.length ≤ c ∧ c ≤ 9223372036854775807 := by
  obtain ⟨A, c, e, h1, h2, -⟩ := h; exact ⟨A, c, e, h1, h2⟩
theorem IsCuts.nil : IsCuts w M (.slice none 0 0) [] := ⟨none, 0, rfl, by simp, by simp, fun h => absurd h (by simp)⟩
theorem cutN_drop (cs : List CutD) (k i : Nat) : cutN (cs.drop k) i = cutN cs (k + i) := by
  unfold cutN; rw [List.getD_eq_getElem?_getD, List.getElem?_drop, List.getD_eq_getElem?_getD]
theorem cutN_get {i : Nat} (h : i < cs.length) : cutN cs i = cs[i] := by
  unfold cutN; rw [List.getD_eq_getElem?_getD, List.getElem?_eq_getElem h]; rfl
/-- the first cut cut off -/
theorem IsCuts.tail {b off n c : Nat} (h : IsCuts w M (.slice (some ⟨b, off, none⟩) n c) cs) (hn : 1 ≤ n) :
    IsCuts w M (.slice (if c = 1 then some ⟨b, off, none⟩ else some ⟨b, off + 3, none⟩) (n - 1) (c - 1)) (cs.drop 1) := by
  obtain ⟨A', c', e, h1, h2, h3⟩ := h
  obtain ⟨rfl, hn', rfl⟩ := Value.slice.inj e
  subst hn'
  refine ⟨_, _, by rw [List.length_drop], by rw [List.length_drop]; omega, by omega, fun hlt => ?_⟩
  rw [List.length_drop] at hlt
  obtain ⟨b2, off2, e, h4⟩ := h3 (by omega)
  injection e with e
  injection e with e e'
  subst e e'
  rw [if_neg (by omega)]
  refine ⟨b, off + 3, rfl, h4.blk, fun i hi => ?_⟩
  rw [List.length_drop] at hi
  rw [cutN_drop]
  have := h4.at_ (1 + i) (by omega)
  rwa [show off + (1 + i) * 3 = off + 3 + i * 3 by omega] at this
end
theorem riv_few {q : RaceD} (h : SizeR q) (h6 : q.clubs.length ≤ 6) (k : Nat) : (comb (rivR q) k).length ≤ 2048 := by
  have h1 := comb_pow (rivR q) k
  have h2 := rivTo_lt h.c0 h.cn
  have h3 : (rivR q).length ≤ 5 := by unfold rivR; omega
  have h4 : 2 ^ (rivR q).length ≤ 2 ^ 5 := Nat.pow_le_pow_right (by omega) h3
  omega
set_option maxRecDepth 20000 in
set_option maxHeartbeats 4000000 in
theorem byFlow_any (w : World) (M : Nat → Prop) (v : Value) (q : RaceD) (h : IsRace w M v q) (hs : SizeR q) (h6 : q.clubs.length ≤ 6) : Calls Try.prog 62 #[v] w fun e w' => e = .returned (.bool (halvesB q)) ∧ Below w.heap.size w w' := by
  obtain ⟨pl, hpl⟩ : ∃ pl : Nat, q.place = (pl : Int) := ⟨q.place.toNat, by have := hs.p1; omega⟩
  have hp1 : 1 ≤ pl := by have := hs.p1; omega
  have hp24 : pl ≤ 24 := by have := hs.pn; have := hs.n24; omega
  have hd := And.intro hs.d0 (show q.draw ≤ 999 by have := hs.dw; have := hs.w9; omega)
  have CH := fun (W : World) (hB : Below w.heap.size w W) => Lib.hid (halves_any W M _ q (h.below hB) hd)
  have CF := fun (W : World) (hB : Below w.heap.size w W) (k : Nat) (hk : k ≤ 24) => Lib.hid (few_any W M _ q (h.below hB) hs k hk (riv_few hs h6 k))
  obtain ⟨cA, cc, pA, pc, oA, oc, rfl, -⟩ := h.parts
  rw [hpl] at CH CF ⊢
  clear h hs hd h6 hpl
  obtain ⟨z, hz⟩ : ∃ z, z = halvesB q := ⟨_, rfl⟩
  rw [← hz] at CH ⊢
  clear hz
  have hpw : IntKind.i64.wrap ((pl : Int) - 1) = ((pl - 1 : Nat) : Int) := by rw [IntWalk.i64_in _ (by omega)]; omega
  have HPW := Lib.hid hpw
  have hpl2 : (pl : Int) - 1 = ((pl - 1 : Nat) : Int) := by omega
  have HPL2 := Lib.hid hpl2
  clear hpw hpl2
  go_enter Try.func62, Try.ntmps62
  go_wp2_with fail
  refine nameW fun W1 hW1 => ?_
  have hb1 : Below w.heap.size w W1 := by rw [hW1.out]; exact (Below.refl _ _).alloc (Nat.le_refl _) _
  have k0 : W1.heap[w.heap.size]? = some (.cells #[.int .i64 q.win, .int .i64 q.draw, .slice cA q.clubs.length cc, .slice pA q.points.length pc, .slice oA q.opn.length oc, .int .i64 q.club, .int .i64 (pl : Int)] 55 (0, 0)) := by rw [hW1.out]; exact heap_alloc_new _ _
  have K0 := Lib.hid k0
  have HB1 := Lib.hid hb1
  clear hW1 hb1 k0
  refine (CH _ HB1.out).out.mono ?_
  rintro e W2 ⟨rfl, hb⟩
  have HB2 := Lib.hid (HB1.out.trans (hb.mono HB1.out.size))
  have K2 := Lib.hid ((hb.block _ (lt_heap K0.out)).trans K0.out)
  clear hb K0 HB1
  cases z
  · go_wp2_with fail
    go_ret
    exact ⟨rfl, HB2.out⟩
  have r0 := cell_of (j := 0) K2.out rfl
  have r1 := cell_of (j := 1) K2.out rfl
  have r2 := cell_of (j := 2) K2.out rfl
  have r3 := cell_of (j := 3) K2.out rfl
  have r4 := cell_of (j := 4) K2.out rfl
  have r5 := cell_of (j := 5) K2.out rfl
  have r6 := cell_of (j := 6) K2.out rfl
  go_wp2_with fail
  refine (CF _ HB2.out pl hp24).out.mono ?_
  rintro e W3 ⟨rfl, hb⟩
  have HB3 := Lib.hid (HB2.out.trans (hb.mono HB2.out.size))
  have K3 := Lib.hid ((hb.block _ (lt_heap K2.out)).trans K2.out)
  clear hb K2 HB2 r0 r1 r2 r3 r4 r5 r6
  have r0 := cell_of (j := 0) K3.out rfl
  have r1 := cell_of (j := 1) K3.out rfl
  have r2 := cell_of (j := 2) K3.out rfl
  have r3 := cell_of (j := 3) K3.out rfl
  have r4 := cell_of (j := 4) K3.out rfl
  have r5 := cell_of (j := 5) K3.out rfl
  have r6 := cell_of (j := 6) K3.out rfl
  go_wp2_with fail
  try rw [HPW.out]
  try rw [HPL2.out]
  refine (CF _ HB3.out (pl - 1) (by omega)).out.mono ?_
  rintro e W4 ⟨rfl, hb⟩
  have HB4 := Lib.hid (HB3.out.trans (hb.mono HB3.out.size))
  clear hb r0 r1 r2 r3 r4 r5 r6
  go_wp2_with fail
  go_ret
  exact ⟨rfl, HB4.out⟩
theorem bySearch_any (w : World) (M : Nat → Prop) (v : Value) (q : RaceD) (h : IsRace w M v q) (hl : q.opn.length ≤ 1000) : Calls Try.prog 63 #[v] w fun e w' => e = .returned (.bool (decide (q.opn.length ≤ 8))) ∧ Below w.heap.size w w' := by
  obtain ⟨cA, cc, pA, pc, oA, oc, rfl, -⟩ := h.parts
  obtain ⟨n, hn⟩ : ∃ n, n = q.opn.length := ⟨_, rfl⟩
  rw [← hn] at hl
  rw [← hn]
  clear h hn
  by_cases h8 : n ≤ 8
  · have d1 : decide ((n : Int) ≤ 8) = true := by rw [decide_eq_true_eq]; omega
    have HQ := Lib.hid (decide_eq_true h8)
    clear h8
    go_enter Try.func63, Try.ntmps63
    go_wp2_with fail
    go_ret
    exact ⟨ret_bool HQ.out.symm, (Below.refl _ _).alloc (Nat.le_refl _) _⟩
  · have d1 : decide ((n : Int) ≤ 8) = false := by rw [decide_eq_false_iff_not]; omega
    have HQ := Lib.hid (decide_eq_false h8)
    clear h8
    go_enter Try.func63, Try.ntmps63
    go_wp2_with fail
    go_ret
    exact ⟨ret_bool HQ.out.symm, (Below.refl _ _).alloc (Nat.le_refl _) _⟩
end Go.Proofs.Ythlnfjbedehjdaa
