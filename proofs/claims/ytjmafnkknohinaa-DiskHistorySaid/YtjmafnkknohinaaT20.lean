import Derived.Test.YtjmafnkknohinaaT19
import Derived.Test.YtjmafnkknohinaaT6
namespace Go.Proofs.Ytjmafnkknohinaa
open Go.RowKit Go.Shelf

attribute [local go_sem] Oper.semAt_some

def lastD (ps : List Wr) (x : Int) (b0 : List UInt8) : List UInt8 := ps.foldl (fun b y => if y.pos = x then y.data else b) b0
def readD (d : DiskD) (x : Int) : List UInt8 × Int := if runsB d && hasB d x then (lastD d.pending x (d.sectors.getD x.toNat []), 0) else ([], 340)
theorem lastD_none {ps : List Wr} {x : Int} {b0 : List UInt8} (h : ∀ y ∈ ps, ¬ y.pos = x) : lastD ps x b0 = b0 := by
  induction ps generalizing b0 with
  | nil => rfl
  | cons y r ih =>
    unfold lastD
    rw [List.foldl_cons, if_neg (h y (by simp))]
    exact ih fun z hz => h z (by simp [hz])
theorem lastD_some {ps : List Wr} {x : Int} {b0 : List UInt8} {q : Nat} (hq : q < ps.length) (hp : (ps[q]).pos = x) (h : ∀ (j : Nat) (hj : j < ps.length), q < j → ¬ (ps[j]).pos = x) : lastD ps x b0 = (ps[q]).data := by
  have e : ps = ps.take q ++ ps[q] :: ps.drop (q + 1) := by rw [List.getElem_cons_drop, List.take_append_drop]
  have h2 : lastD ps x b0 = lastD (ps.drop (q + 1)) x (ps[q]).data := by
    conv => lhs; rw [e]
    unfold lastD
    rw [List.foldl_append, List.foldl_cons, if_pos hp]
  rw [h2, lastD_none]
  intro y hy
  obtain ⟨i, hi, rfl⟩ := List.getElem_of_mem hy
  rw [List.getElem_drop]
  simp at hi
  exact h _ (by omega) (by omega)
/-- the place of write j -/
def posOf (ps : List Wr) (j : Nat) : Int := (ps.getD j w0).pos
theorem posOf_get {ps : List Wr} {j : Nat} (h : j < ps.length) : posOf ps j = (ps[j]).pos := by simp [posOf, List.getD_eq_getElem?_getD, h]
theorem mem_came {len q j : Nat} : j ∈ came len q ↔ q ≤ j ∧ j < len := by unfold came; rw [List.mem_reverse, List.mem_range'_1]; omega
theorem readD_yes {d : DiskD} {x : Int} (hr : runsB d = true) (hh : hasB d x = true) : readD d x = (lastD d.pending x (d.sectors.getD x.toNat []), 0) := by simp [readD, hr, hh]
def RetBytesE (w : World) (M : Nat → Prop) (r : List UInt8 × Int) (e : Ending) (w' : World) : Prop := ∃ v, e = .returned (.tuple #[v, .int .i64 r.2]) ∧ IsBytes w' M v r.1 ∧ Below w.heap.size w w'

theorem IsBytes.nil {w : World} {M : Nat → Prop} : IsBytes w M (.slice none 0 0) [] := ⟨none, 0, rfl, Nat.le_refl _, by omega, fun h => absurd h (by simp)⟩

theorem wrs_total {w : World} {M : Nat → Prop} {A : Option Addr} {ps : List Wr} (h : WrsC w M A ps) :
    ∃ vs : Nat → Value, Cells w M 2 A ps.length (fun i j => if j = 0 then .int .i64 (posOf ps i) else vs i) ∧ (∀ i, i < ps.length → IsBytes w M (vs i) (ps.getD i w0).data) ∧ ∀ i, ∃ A' n c, vs i = .slice A' n c := by
  obtain ⟨vs, h1, h2⟩ := h
  refine ⟨fun i => if i < ps.length then vs i else .slice none 0 0, fun hn => ?_, fun i hi => ?_, fun i => ?_⟩
  · obtain ⟨b, off, e, hm, hc⟩ := h1 hn
    refine ⟨b, off, e, hm, fun i j hi hj => ?_⟩
    rw [hc i j hi hj]
    simp only [if_pos hi, posOf]
  · simp only [if_pos hi]; exact h2 i hi
  · by_cases hi : i < ps.length
    · obtain ⟨A', c, e, _⟩ := h2 i hi
      exact ⟨A', _, c, by simp only [if_pos hi]; exact e⟩
    · exact ⟨none, 0, 0, by simp only [if_neg hi]⟩

set_option maxRecDepth 100000 in
set_option maxHeartbeats 2000000 in
theorem read_go (w : World) (M : Nat → Prop) (d : DiskD) (v : Value) (h : IsDisk w M v d) (x : Int) (hr : runsB d = true) (hh : hasB d x = true) :
    Calls Try.prog 21 #[v, .int .i64 x] w (RetBytesE w M (readD d x)) := by
  obtain ⟨sA, sc, pA, pc, rfl, hs1, hs2, hs3, hp1, hp2, hp3⟩ := h.parts
  refine (callsIn_wide (n := 6)).1 ?_
  refine callsIn_of_wp_marks Try.func21 rfl trivial ?_ rfl
  simp only [Try.ntmps21, List.size_toArray, List.length_cons, List.length_nil, Nat.reduceAdd, Nat.reduceSub, Array.replicate_succ, Array.replicate_zero, List.push_toArray, List.append_toArray, List.nil_append, List.cons_append]
  gi_wp2_with fail
  refine ⟨trivial, callsIn_wide.2 (nameW fun W1 hW1 => ?_)⟩
  have hz : W1.heap.size = w.heap.size + 4 := by rw [hW1.out]; simp
  have hB1 : Below w.heap.size w W1 := by rw [hW1.out]; exact ((((Below.refl w.heap.size w).alloc (Nat.le_refl _) _).alloc (by simp) _).alloc (by simp; omega) _).alloc (by simp; omega) _
  have k0 : W1.heap[w.heap.size]? = some (.cells #[.slice sA d.sectors.length sc, .slice pA d.pending.length pc, .int .i64 d.left, .bool d.stopped] 25 (0, 0)) := (by rw [hW1.out]; simp only [heap_alloc_if, World.size_alloc]; repeat (first | rw [if_pos trivial] | rw [if_pos (by omega)] | rw [if_neg (by omega)]))
  have k1 : W1.heap[w.heap.size + 1]? = some (.cells #[.int .i64 x] 3 (0, 0)) := (by rw [hW1.out]; simp only [heap_alloc_if, World.size_alloc]; repeat (first | rw [if_pos trivial] | rw [if_pos (by omega)] | rw [if_neg (by omega)]))
  have k2 : W1.heap[w.heap.size + 2]? = some (.cells #[.slice none 0 0] 35 (0, 0)) := (by rw [hW1.out]; simp only [heap_alloc_if, World.size_alloc]; repeat (first | rw [if_pos trivial] | rw [if_pos (by omega)] | rw [if_neg (by omega)]))
  have k3 : W1.heap[w.heap.size + 3]? = some (.cells #[.int .i64 0] 28 (0, 0)) := (by rw [hW1.out]; simp only [heap_alloc_if, World.size_alloc]; repeat (first | rw [if_pos trivial] | rw [if_pos (by omega)] | rw [if_neg (by omega)]))
  refine (runs_any W1 M d _ (h.below hB1)).mono ?_
  rintro e w1 ⟨rfl, hb1⟩
  rw [hr]
  have hF1 := hB1.trans (hb1.mono hB1.size)
  have K0 := (hb1.block w.heap.size (by omega)).trans k0
  have K1 := (hb1.block (w.heap.size + 1) (by omega)).trans k1
  have K2 := (hb1.block (w.heap.size + 2) (by omega)).trans k2
  have K3 := (hb1.block (w.heap.size + 3) (by omega)).trans k3
  have hz1 : w.heap.size + 4 ≤ w1.heap.size := by have := hb1.size; omega
  clear k0 k1 k2 k3 hb1 hB1 hz hW1
  have H0 := Lib.hid K0
  have H1 := Lib.hid K1
  have H2 := Lib.hid K2
  have H3 := Lib.hid K3
  have HF1 := Lib.hid hF1
  clear K0 K1 K2 K3 hF1
  obtain ⟨⟨c0, c1, c2, c3⟩, _⟩ := blk4 (Below.refl _ w1) H0.out (Nat.lt_succ_self _)
  have d1 := cell_of (j := 0) H1.out rfl
  have C2 := Lib.hid (has_any w1 M d _ (h.below HF1.out) x)
  obtain ⟨-, g1, g2, g3, -, -, -⟩ := runs_parts hr
  have HR := Lib.hid hr
  have HH := Lib.hid hh
  rw [hh] at C2
  clear hr hh
  gi_wp2_with fail
  refine ⟨trivial, callsIn_wide.2 ?_⟩
  refine C2.out.mono ?_
  rintro e w2 ⟨rfl, hb2⟩
  have J0 := Lib.hid ((hb2.block w.heap.size (by omega)).trans H0.out)
  have J1 := Lib.hid ((hb2.block (w.heap.size + 1) (by omega)).trans H1.out)
  have J2 := Lib.hid ((hb2.block (w.heap.size + 2) (by omega)).trans H2.out)
  have J3 := Lib.hid ((hb2.block (w.heap.size + 3) (by omega)).trans H3.out)
  have HF2 := Lib.hid (HF1.out.trans (hb2.mono HF1.out.size))
  have hz2 : w.heap.size + 4 ≤ w2.heap.size := by have := hb2.size; omega
  clear hb2 c0 c1 c2 c3 d1
  obtain ⟨⟨c0, c1, c2, c3⟩, _⟩ := blk4 (Below.refl _ w2) J0.out (Nat.lt_succ_self _)
  gi_wp2_with fail
  refine ⟨trivial, ?_⟩
  refine (back_in _ _ trivial rfl _ _ _ _).mono ?_
  rintro e w3 ⟨rfl, rfl⟩
  gi_wp2_with fail
  obtain ⟨W0, hW0⟩ : ∃ W0, W0 = w2.alloc (.cells #[.slice pA d.pending.length pc] 23) := ⟨_, rfl⟩
  have hsz : W0.heap.size = w2.heap.size + 1 := by rw [hW0]; simp
  have hB0 : Below w2.heap.size w2 W0 := by rw [hW0]; exact (Below.refl _ _).alloc (Nat.le_refl _) _
  have bN : W0.cell? ⟨w2.heap.size, 0, none⟩ = some (.slice pA d.pending.length pc) := by rw [hW0]; exact (Boxed.new w2 23 _).cell
  rw [← hW0]
  have HW0 := Lib.hid hW0
  clear hW0
  obtain ⟨ws, hq3, hq4, hq5⟩ := wrs_total hp3
  have HBW := Lib.hid (HF2.out.trans (hB0.mono HF2.out.size))
  have HC0 := Lib.hid (((hq3.below HBW.out).mono (M' := fun b => b < W0.heap.size) (fun b hb _ => hb) (by omega)))
  have HK := fun (W : World) (hB : Below W0.heap.size W0 W) (k : Nat) (hk : k < w2.heap.size) => (hB.block k (by omega)).trans (hB0.block k hk)
  have HKh := Lib.hid HK
  clear HK
  refine wpIn_rangeFunc_ownH rfl (by omega) (gf := 43) (lb := #[.pointer (some ⟨w2.heap.size, 0, none⟩)]) rfl trivial (enters_of Try.func43 (by kernel_rfl) rfl)
    (back_stops Fence.wide 5 trivial rfl (by decide) w2.heap.size W0.heap.size d.pending.length pc pA _ g3 (by omega) W0 (Nat.le_refl _) bN HC0.out) belowK_t (belowK_b (Nat.le_refl _)) (Below.refl _ _) (fun _ => rfl)
    (fun pre W => (∀ j ∈ pre, ¬ posOf d.pending j = x) ∧ Below W0.heap.size W0 W)
    (fun c pre W => (c = .ret ∧ ∃ ini last, pre = ini ++ [last] ∧ (∀ j ∈ ini, ¬ posOf d.pending j = x) ∧ posOf d.pending last = x ∧ Boxed W (w.heap.size + 1 + 1) 35 (ws last) ∧ Boxed W (w.heap.size + 1 + 1 + 1) 28 (.int .i64 0)) ∧ Below w.heap.size w W)
    (OwnFrom.and (fun s A B row hs hg hr => hs) (ownFrom_below (Nat.le_refl _) (Nat.le_refl _)))
    (fun c => OwnFrom.and (fun s A B row hs hg hr => by
      obtain ⟨hc, ini, last, e1, e2, e3, e4, e5⟩ := hs
      exact ⟨hc, ini, last, e1, e2, e3, (boxed_own _ 35 (fun (_ : Unit) => ws last)) () A B row e4 hg (fun r e => (hr r e).2), (boxed_own _ 28 (fun (_ : Unit) => Value.int .i64 0)) () A B row e5 hg (fun r e => (hr r e).2)⟩) (ownFrom_below (Nat.le_refl _) (by omega)))
    ⟨fun j hj => absurd hj (by simp), Below.refl _ _⟩
    (fun j a' W => ∃ Bx, W0.heap.size ≤ Bx ∧ W.heap[Bx]? = some (.cells #[.int .i64 (posOf d.pending j), ws j] 53 (0, 0)) ∧ a' = { tmps := #[.agg #[.slice sA d.sectors.length sc, .slice pA d.pending.length pc, .int .i64 d.left, .bool d.stopped], .int .i64 x, .pointer (some ⟨w.heap.size, 0, none⟩), .pointer (some ⟨w.heap.size + 1, 0, none⟩), .pointer (some ⟨w.heap.size + 1 + 1, 0, none⟩), .pointer (some ⟨w.heap.size + 1 + 1 + 1, 0, none⟩), undef, .pointer (some ⟨Bx, 0, none⟩), .agg #[.slice sA d.sectors.length sc, .slice pA d.pending.length pc, .int .i64 d.left, .bool d.stopped], .bool true, .bool false, .bool false, .agg #[.slice sA d.sectors.length sc, .slice pA d.pending.length pc, .int .i64 d.left, .bool d.stopped], .int .i64 x, .bool true, .bool false, .bool false, .pointer (some ⟨w.heap.size, 1, none⟩), .slice pA d.pending.length pc, .func (.func 43) #[] #[.pointer (some ⟨w2.heap.size, 0, none⟩)], .int .i64 (j : Int), .agg #[.int .i64 (posOf d.pending j), ws j], undef, undef, undef, undef, undef, undef, undef, undef, undef, undef, undef], defers := [] })
    (fun j a' _ X Y row hs hg hr => by
      obtain ⟨Bx, h1, h2, h3⟩ := hs
      exact ⟨Bx, h1, (hg.block Bx (Array.getElem?_eq_some_iff.1 h2).1 (fun e => by obtain ⟨_, o, ho, hno⟩ := hr Bx e.symm; rw [h2] at ho; cases ho; cases hno)).trans h2, h3⟩)
    ?assign ?body ?done ?stop
  case assign =>
    rintro l pre j W K ⟨hp, hB⟩ hK
    obtain ⟨bA, bn, bc, hwj⟩ := hq5 j
    have HWj := Lib.hid hwj
    simp only [encW, hwj]
    clear hwj
    gi_wp2
    refine hK _ _ ((KeepsOthers.alloc _ _).from _) ((Below.refl _ W).alloc hB.size _) ⟨hp, hB.alloc hB.size _⟩ ⟨W.heap.size, hB.size, ?_, ?_⟩
    · rw [HWj.out]; exact heap_alloc_new _ _
    · rw [HWj.out]
  case body =>
    rintro l pre j a' W hl - ⟨hp, hB⟩ ⟨Bx, hBx, bX, rfl⟩ hlt
    obtain ⟨bA, bn, bc, hwj⟩ := hq5 j
    have HWj := Lib.hid hwj
    rw [hwj] at bX ⊢
    clear hwj
    have e0 := cell_of (j := 0) bX rfl
    have e1 := cell_of (j := 1) bX rfl
    have k1 := (HKh.out W hB (w.heap.size + 1) (by omega)).trans J1.out
    have k2 : Boxed W (w.heap.size + 1 + 1) 35 (.slice none 0 0) := (HKh.out W hB (w.heap.size + 2) (by omega)).trans J2.out
    have k3 : Boxed W (w.heap.size + 1 + 1 + 1) 28 (.int .i64 0) := (HKh.out W hB (w.heap.size + 3) (by omega)).trans J3.out
    have x1 := cell_of (j := 0) k1 rfl
    have x2 := k2.cell
    have y2 := k2.frozen
    have x3 := k3.cell
    have y3 := k3.frozen
    have HX := Lib.hid bX
    have K2 := Lib.hid k2
    have K3 := Lib.hid k3
    have HBr := Lib.hid (HBW.out.trans (hB.mono (by omega)))
    clear bX k1 k2 k3
    by_cases hpx : posOf d.pending j = x
    · have hbx : (posOf d.pending j == x) = true := by simp [hpx]
      have HP := Lib.hid hpx
      clear hpx
      gi_wp2
      refine ⟨((KeepsOthers.setCell _ _ _).from _).trans ((KeepsOthers.setCell _ _ _).from _), ⟨rfl, pre, j, rfl, hp, HP.out, ?_, ?_⟩, ?_⟩
      · rw [HWj.out]; exact (K2.out.set _).other (by omega) _
      · exact (K3.out.other (by omega) _).set _
      · exact (HBr.out.setCell (p := ⟨w.heap.size + 1 + 1, 0, none⟩) (by dsimp only; omega) _).setCell (p := ⟨w.heap.size + 1 + 1 + 1, 0, none⟩) (by dsimp only; omega) _
    · have hbx : (posOf d.pending j == x) = false := by simp [hpx]
      have HP := Lib.hid hpx
      clear hpx
      gi_wp2
      exact ⟨KeepsFrom.refl _ _, Below.refl _ _, fun i hi => (List.mem_append.1 hi).elim (hp i) (fun e => by simp at e; subst e; exact HP.out), hB⟩
  case done =>
    rintro D ys W hD rfl ⟨hne, hB⟩ hK
    have hx : 0 ≤ x ∧ x < (d.sectors.length : Int) := by have := HH.out; simpa [hasB] using this
    obtain ⟨X, hX⟩ : ∃ X : Nat, x = (X : Int) := ⟨x.toNat, by omega⟩
    subst hX
    have hXl : X < d.sectors.length := by omega
    have HBr := Lib.hid (HBW.out.trans (hB.mono (by omega)))
    obtain ⟨b, off, bA, bc, rfl, hbl, hck, hbc1, hbc2, hby⟩ := hs3.at_ HBr.out hXl
    have HV := Lib.hid (show lastD d.pending (X : Int) (d.sectors.getD X []) = d.sectors[X] by
      rw [lastD_none, List.getD_eq_getElem?_getD, List.getElem?_eq_getElem hXl, Option.getD_some]
      intro y hy
      obtain ⟨i, hi, rfl⟩ := List.getElem_of_mem hy
      rw [← posOf_get hi]
      exact hne i (mem_came.2 ⟨by omega, hi⟩))
    have kd := (HKh.out W hB w.heap.size (by omega)).trans J0.out
    have k1 := (HKh.out W hB (w.heap.size + 1) (by omega)).trans J1.out
    have k2 : Boxed W (w.heap.size + 1 + 1) 35 (.slice none 0 0) := (HKh.out W hB (w.heap.size + 2) (by omega)).trans J2.out
    have k3 : Boxed W (w.heap.size + 1 + 1 + 1) 28 (.int .i64 0) := (HKh.out W hB (w.heap.size + 3) (by omega)).trans J3.out
    have x0 := cell_of (j := 0) kd rfl
    have x1 := cell_of (j := 0) k1 rfl
    have x2 := k2.cell
    have y2 := k2.frozen
    have x3 := k3.cell
    have y3 := k3.frozen
    have K2 := Lib.hid k2
    have K3 := Lib.hid k3
    have HKD := Lib.hid hK
    have HXl := Lib.hid hXl
    clear kd k1 k2 k3 hK
    gi_wp2_with fail
    have hK' := ((KeepsOthers.setCell W ⟨w.heap.size + 1 + 1, 0, none⟩ (.slice bA (d.sectors[X]).length bc)).trans (KeepsOthers.setCell _ ⟨w.heap.size + 1 + 1 + 1, 0, none⟩ (.int .i64 0))).same D _ HKD.out rfl
    refine ⟨by simp, .inl ⟨_, _, rfl, run_takeDeferred hK', ?_⟩⟩
    have b2 : Boxed ((W.setCell ⟨w.heap.size + 1 + 1, 0, none⟩ (.slice bA (d.sectors[X]).length bc)).setCell ⟨w.heap.size + 1 + 1 + 1, 0, none⟩ (.int .i64 0)) (w.heap.size + 1 + 1) 35 (.slice bA (d.sectors[X]).length bc) := (K2.out.set _).other (by omega) _
    have b3 : Boxed ((W.setCell ⟨w.heap.size + 1 + 1, 0, none⟩ (.slice bA (d.sectors[X]).length bc)).setCell ⟨w.heap.size + 1 + 1 + 1, 0, none⟩ (.int .i64 0)) (w.heap.size + 1 + 1 + 1) 28 (.int .i64 0) := (K3.out.other (by omega) _).set _
    have z2 := cell_kept b2.cell (grownBy_putObj' _ D (.deferred none)) (fun r e => by cases e; exact ⟨_, hK', rfl⟩)
    have z3 := cell_kept b3.cell (grownBy_putObj' _ D (.deferred none)) (fun r e => by cases e; exact ⟨_, hK', rfl⟩)
    have hbf := ((HBr.out.setCell (p := ⟨w.heap.size + 1 + 1, 0, none⟩) (by dsimp only; omega) (.slice bA (d.sectors[X]).length bc)).setCell (p := ⟨w.heap.size + 1 + 1 + 1, 0, none⟩) (by dsimp only; omega) (.int .i64 0)).trans (belowK_b (w := w) (Nat.le_refl _) _ D _ (.deferred none) (by omega) hK' rfl rfl)
    clear b2 b3 hK'
    generalize World.putObj _ _ _ = Wf at z2 z3 hbf ⊢
    refine ⟨.tuple #[.slice bA (d.sectors[X]).length bc, .int .i64 0], ?_, ?_⟩
    · simp [results, Try.f21, go_sem, z2, z3]
    · rw [readD_yes HR.out HH.out, Int.toNat_natCast, HV.out]
      exact ⟨_, rfl, IsBytes.below ⟨bA, bc, rfl, hbc1, hbc2, hby⟩ hbf, hbf⟩
  case stop =>
    rintro D c pre W hD ⟨q, hq, rfl⟩ ⟨⟨rfl, ini, last, e1, e2, e3, b2, b3⟩, hB⟩ hK
    rw [came_succ hq] at e1
    obtain ⟨rfl, e5⟩ := List.append_inj' e1 rfl
    obtain rfl : q = last := by simpa using e5
    have HV := Lib.hid (show lastD d.pending x (d.sectors.getD x.toNat []) = (d.pending.getD q w0).data by
      rw [lastD_some hq (by rw [← posOf_get hq]; exact e3) (fun j hj hqj => by rw [← posOf_get hj]; exact e2 j (mem_came.2 ⟨by omega, hj⟩)), List.getD_eq_getElem?_getD, List.getElem?_eq_getElem hq, Option.getD_some])
    obtain ⟨bA, bc, hwq, hb1, hb2, hby⟩ := hq4 q hq
    gi_wp2_with fail
    refine ⟨by simp, .inl ⟨_, _, rfl, run_takeDeferred hK, ?_⟩⟩
    have z2 := cell_kept b2.cell (grownBy_putObj' _ D (.deferred none)) (fun r e => by cases e; exact ⟨_, hK, rfl⟩)
    have z3 := cell_kept b3.cell (grownBy_putObj' _ D (.deferred none)) (fun r e => by cases e; exact ⟨_, hK, rfl⟩)
    have hbf := hB.trans (belowK_b (w := w) (Nat.le_refl _) _ D _ (.deferred none) (by omega) hK rfl rfl)
    refine ⟨.tuple #[ws q, .int .i64 0], ?_, ?_⟩
    · simp [results, Try.f21, go_sem, z2, z3]
    · rw [readD_yes HR.out HH.out, HV.out]
      exact ⟨_, rfl, IsBytes.below ⟨bA, bc, hwq, hb1, hb2, hby⟩ hbf, hbf⟩
end Go.Proofs.Ytjmafnkknohinaa
