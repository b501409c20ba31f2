import Derived.Test.YtbkgkgigcohbpaaZ2
import Derived.Test.YtbkgkgigcohbpaaZ1
/- Max, Cover, Hall of package matching. -/
namespace Go.Proofs.Ytbkgkgigcohbpaa
open Go.RowKit Go.Shelf Go.Deep Sm
/-- the numbers below n that meet p -/
def selN (p : Nat → Bool) (n : Nat) : List Nat := (List.range n).filter p
theorem selN_succ_yes {p : Nat → Bool} {n : Nat} (h : p n = true) : selN p (n + 1) = selN p n ++ [n] := by unfold selN; rw [List.range_succ, List.filter_append]; simp [h]
theorem selN_succ_no {p : Nat → Bool} {n : Nat} (h : p n = false) : selN p (n + 1) = selN p n := by unfold selN; rw [List.range_succ, List.filter_append]; simp [h]
theorem selN_len (p : Nat → Bool) (n : Nat) : (selN p n).length ≤ n := by unfold selN; have := List.length_filter_le p (List.range n); simpa using this
theorem selN_mem {p : Nat → Bool} {n v : Nat} : v ∈ selN p n ↔ v < n ∧ p v = true := by unfold selN; rw [List.mem_filter, List.mem_range]
theorem selN_size (p : Nat → Bool) : ∀ n, (selN p n).length = sizeB p n
  | 0 => rfl
  | n + 1 => by
    unfold sizeB
    rw [sumB]
    have := selN_size p n
    unfold sizeB at this
    cases h : p n
    · rw [selN_succ_no h, this]; simp
    · rw [selN_succ_yes h, List.length_append, this]; simp
def natI (l : List Nat) : List Int := l.map fun (x : Nat) => (x : Int)
theorem natI_len (l : List Nat) : (natI l).length = l.length := by simp [natI]
/-- an own row of the numbers so far -/
def Row25 (w : World) (base : Nat) (v : Value) (l : List Nat) : Prop := w.ownsRow base 3 1 v l.length ((natI l).map i64v)
theorem Row25.ints {w : World} {base : Nat} {v : Value} {l : List Nat} (h : Row25 w base v l) : IsInts w (fun b => base ≤ b) v (natI l) := IsInts.ofOwn (by rw [natI_len]; exact h)
theorem Row25.below {w w' : World} {base : Nat} {v : Value} {l : List Nat} (h : Row25 w base v l) (hb : Below w.heap.size w w') : Row25 w' base v l := by
  obtain ⟨h1, h2⟩ := h
  refine ⟨h1, ?_⟩
  rcases h2 with h2 | ⟨r, cap, cur, hv, hbb, hh, rest⟩
  · exact .inl h2
  · exact .inr ⟨r, cap, cur, hv, hbb, (hb.block r (lt_heap hh)).trans hh, rest⟩
theorem Row25.sl {w : World} {base : Nat} {v : Value} {l : List Nat} (h : Row25 w base v l) : ∃ A c, v = .slice A l.length c := by
  obtain ⟨-, h2⟩ := h
  rcases h2 with ⟨rfl, e⟩ | ⟨b, cap, cur, rfl, -⟩
  · exact ⟨none, 0, by rw [e]⟩
  · exact ⟨_, _, rfl⟩
theorem graph_box {wr : World} {b : Nat} {L R : Int} {v2 : Value} (h : wr.heap[b]? = some (.cells #[.int .i64 L, .int .i64 R, v2] 49 (0, 0))) : wr.cell? ⟨b, 0, none⟩ = some (.int .i64 L) ∧ wr.cell? ⟨b, 1, none⟩ = some (.int .i64 R) ∧ wr.cell? ⟨b, 2, none⟩ = some v2 :=
  ⟨cell_of h rfl, cell_of h rfl, cell_of h rfl⟩
def ErrW (vs : List Value) (w : World) (e : Ending) (w' : World) : Prop := e = .returned (.tuple vs.toArray) ∧ Below w.heap.size w w'
set_option maxHeartbeats 1000000 in
theorem max_no (w : World) (M : Nat → Prop) (v : Value) (g : GrD) (h : IsGraph w M v g) (hc : chkB g = false) : Calls Try.prog 26 #[v] w (ErrW [.slice none 0 0, .int .i64 250] w) := by
  have CC := fun W (hb : Below w.heap.size w W) => Lib.hid (mcheck_any W M v g (h.below hb))
  rw [chkG_no hc] at CC
  obtain ⟨v2, rfl, -⟩ := h
  clear hc
  go_enter Try.func26, Try.ntmps26
  go_wp2_with fail
  refine nameW fun W1 hW1 => ?_
  have HB1 : Hid (Below w.heap.size w W1) := by rw [hW1.out]; exact (Below.refl _ _).alloc (Nat.le_refl _) _
  clear hW1
  refine (CC W1 HB1.out).out.mono ?_
  rintro e w2 ⟨rfl, hb2⟩
  have HB2 := Lib.hid (HB1.out.trans (hb2.mono HB1.out.size))
  clear hb2 HB1 CC
  go_wp2_with fail
  go_ret2
  exact ⟨rfl, HB2.out⟩
def MaxW (w : World) (g : GrD) (L R : Nat) (e : Ending) (w' : World) : Prop := ∃ v lf rf, e = .returned (.tuple #[v, .int .i64 0]) ∧ IsInts w' (fun b => w.heap.size ≤ b) v ((List.range L).map lf) ∧ FInv (edB g) L R lf rf L ∧ Below w.heap.size w w'
theorem row_ints {w : World} {b n : Nat} {f : Nat → Int} {M : Nat → Prop} (h : w.rowIs b 3 n (fun i => .int .i64 (f i))) (hn : n ≤ 9223372036854775807) (hM : M b) : IsInts w M (.slice (some ⟨b, 0, none⟩) n n) ((List.range n).map f) := by
  refine ⟨some ⟨b, 0, none⟩, n, by simp, by simp, hn, fun _ => ⟨b, 0, rfl, hM, fun i j hi hj => ?_⟩⟩
  obtain rfl : j = 0 := by omega
  rw [List.length_map, List.length_range] at hi
  rw [Nat.zero_add, Nat.mul_one, Nat.add_zero, h.cell hi]
  simp [List.getD_eq_getElem?_getD, hi]
theorem Try.field0 (w : World) (a b : Value) : (Instr.field 66 (.agg #[a, b]) 0).run Try.prog w = .ok a w := by kernel_rfl
set_option maxHeartbeats 1000000 in
theorem max_yes (w : World) (M : Nat → Prop) (v : Value) (g : GrD) (h : IsGraph w M v g) (hc : chkB g = true) {L R : Nat} (hg : GOk g L R) : Calls Try.prog 26 #[v] w (MaxW w g L R) := by
  have CC := fun W (hb : Below w.heap.size w W) => Lib.hid (mcheck_any W M v g (h.below hb))
  have CF := fun W (hb : Below w.heap.size w W) => Lib.hid (find_any W M v g (h.below hb) hg)
  have hL := hg.l512
  rw [chkG_yes hc] at CC
  obtain ⟨v2, rfl, -⟩ := h
  clear hc hg
  go_enter Try.func26, Try.ntmps26
  go_wp2_with fail
  refine nameW fun W1 hW1 => ?_
  have HB1 : Hid (Below w.heap.size w W1) := by rw [hW1.out]; exact (Below.refl _ _).alloc (Nat.le_refl _) _
  have k1 : W1.heap[w.heap.size]? = some (.cells #[.int .i64 g.left, .int .i64 g.right, v2] 49 (0, 0)) := by rw [hW1.out, heap_alloc_if, if_pos rfl]
  clear hW1
  refine (CC W1 HB1.out).out.mono ?_
  rintro e w2 ⟨rfl, hb2⟩
  have HB2 := Lib.hid (HB1.out.trans (hb2.mono HB1.out.size))
  obtain ⟨c0, c1, c2⟩ := graph_box ((hb2.block _ (lt_heap k1)).trans k1)
  clear hb2 HB1 CC k1
  go_wp2_with fail
  refine (CF w2 HB2.out).out.mono ?_
  rintro e w3 ⟨bl, br, lf, rf, rfl, hl, hr, hm, hf, hb3⟩
  have HM := Lib.hid hm
  have HF := Lib.hid hf
  have HB3 := Lib.hid (HB2.out.trans (hb3.mono HB2.out.size))
  have HL := Lib.hid (Nat.le_trans HB2.out.size hl)
  clear hm hf hb3 CF c0 c1 c2 hl hr
  unfold matV
  have hf0 := fun W => Try.field0 W (.slice (some ⟨bl, 0, none⟩) L L) (.slice (some ⟨br, 0, none⟩) R R)
  go_wp2_with fail
  go_ret2
  exact ⟨_, lf, rf, rfl, row_ints HM.out.2.1 (by omega) HL.out, HF.out, HB3.out⟩
end Go.Proofs.Ytbkgkgigcohbpaa
