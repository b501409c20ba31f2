/- newMatch. -/
import Derived.Test.YtolappaekjdcgaaA5
namespace Go.Proofs.Ytolappaekjdcgaa
open Go.RowKit Go.Shelf Go.Deep
/-- a matching's two rows in memory -/
def MatW (w : World) (bl br L R : Nat) (lf rf : Nat → Int) : Prop := bl ≠ br ∧ w.rowIs bl 3 L (fun i => .int .i64 (lf i)) ∧ w.rowIs br 3 R (fun i => .int .i64 (rf i))
theorem frz_at {w : World} {g j : Nat} {cs : Array Value} {t : TypeId} (h : w.heap[g]? = some (.cells cs t (0, 0))) : w.frozen? ⟨g, j, none⟩ = false := by simp [World.frozen?, h]
theorem cell_drew {w : World} {a : Addr} {v : Value} (h : w.cell? a = some v) : w.drew.cell? a = some v := h
theorem cell_alloc {w : World} {a : Addr} {v : Value} (h : w.cell? a = some v) (o : Obj) : (w.alloc o).cell? a = some v := (((Below.refl w.heap.size w).alloc (Nat.le_refl _) o).cell (lt_of_cell h)).trans h
/-- what newMatch hands back -/
def matV (bl br L R : Nat) : Value := .agg #[.slice (some ⟨bl, 0, none⟩) L L, .slice (some ⟨br, 0, none⟩) R R]
def NewMW (w : World) (L R : Nat) (e : Ending) (w' : World) : Prop := ∃ bl br, e = .returned (matV bl br L R) ∧ w.heap.size ≤ bl ∧ w.heap.size ≤ br ∧ MatW w' bl br L R (fun _ => -1) (fun _ => -1) ∧ Below w.heap.size w w'
/-- all objects of W are in w' as they were -/
def KH (W w' : World) : Prop := ∀ (k : Nat) (o : Obj), W.heap[k]? = some o → w'.heap[k]? = some o
theorem heap_drew {w : World} {k : Nat} {o : Obj} (h : w.heap[k]? = some o) : w.drew.heap[k]? = some o := h
theorem heap_alloc_keep {w : World} {k : Nat} {o : Obj} (h : w.heap[k]? = some o) (o' : Obj) : (w.alloc o').heap[k]? = some o := (Below.heap_alloc _ _ _ (lt_heap h)).trans h
theorem KH.row {W w' : World} (h : KH W w') {b : Nat} {t : TypeId} {n : Nat} {f : Nat → Value} (hr : W.rowIs b t n f) : w'.rowIs b t n f := by
  obtain ⟨c, h1, h2⟩ := hr
  exact ⟨c, h _ _ h1, h2⟩
theorem KH.arr {W w' : World} (h : KH W w') {b : Nat} {x : Value} (hr : ArrI W b x) : ArrI w' b x := h _ _ hr
theorem KH.below {W w' : World} (h : Below W.heap.size W w') : KH W w' := fun _ _ e => (h.block _ (lt_heap e)).trans e
theorem RepR.intro {W : World} {n : Nat} {e : Ending} {w' : World} (h : RepR W n e w') : ∃ b, e = .returned (.slice (some ⟨b, 0, none⟩) n n) ∧ W.heap.size ≤ b ∧ b < w'.heap.size ∧ Hid (w'.rowIs b 3 n (fun _ => i64v (-1))) ∧ Hid (KH W w') ∧ Hid (∀ B w0, Below B w0 W → B ≤ W.heap.size → Below B w0 w') ∧ W.heap.size ≤ w'.heap.size := by
  obtain ⟨b, h1, h2, h3, h4⟩ := h
  exact ⟨b, h1, h2, h3.lt, h3, KH.below h4, fun B w0 h hB => h.trans (h4.mono hB), h4.size⟩
set_option maxHeartbeats 2000000 in
theorem newMatch_any (w : World) (M : Nat → Prop) (v : Value) (g : GrD) (h : IsGraph w M v g) {L R : Nat} (hg : GOk g L R) : Calls Try.prog 34 #[v] w (NewMW w L R) := by
  obtain ⟨v2, rfl, -⟩ := h
  obtain ⟨h1, h2, h3, h4, -, -, -⟩ := hg
  rw [h1, h2]
  clear h1 h2
  have hx1 : L ≤ 4096 := by omega
  have hx2 : R ≤ 4096 := by omega
  go_enter Try.func34, Try.ntmps34
  go_wp2_with fail
  refine nameC fun W1 hW1 => ?_
  have hB1 : Below w.heap.size w W1 := by rw [hW1.out]; exact ((Below.refl _ _).alloc (Nat.le_refl _) _).alloc (by simp) _
  have hk1 : W1.heap[w.heap.size]? = some (.cells #[.int .i64 (L : Int), .int .i64 (R : Int), v2] 24 (0, 0)) := by rw [hW1.out, heap_alloc_if, if_neg (by simp), heap_alloc_if, if_pos rfl]
  have hk2 : W1.heap[w.heap.size + 1]? = some (.cells #[.slice none 0 0, .slice none 0 0] 54 (0, 0)) := by rw [hW1.out, heap_alloc_if, if_pos (by simp)]
  have hs1 : w.heap.size + 1 + 1 ≤ W1.heap.size := by have := lt_heap hk2; omega
  have HB1 := Lib.hid hB1
  have HG1 := Lib.hid hk1
  have HX1 := Lib.hid hk2
  have c0 : W1.cell? ⟨w.heap.size, 0, none⟩ = some (.int .i64 (L : Int)) := cell_of hk1 rfl
  have c1 : W1.cell? ⟨w.heap.size, 1, none⟩ = some (.int .i64 (R : Int)) := cell_of hk1 rfl
  clear hW1 hB1 hk1 hk2
  go_region_held3 (fun w' => w'.cell? ⟨w.heap.size, 0, none⟩ = some (.int .i64 (L : Int)) ∧ w'.cell? ⟨w.heap.size, 1, none⟩ = some (.int .i64 (R : Int))) (first | with_reducible exact ⟨c0, c1⟩ | with_reducible exact ⟨a0, a1⟩ | with_reducible exact ⟨b0, b1⟩ | go_keep) (first | (go_at_call 39; (with_reducible refine (repeat_all _ _ _ L hx1 ?_).mono ?_); (focus ((repeat (first | (with_reducible refine ArrI.drew ?_) | ((refine ArrI.new ?_); (focus (first | rfl | (simp; done)))) | (with_reducible refine ArrI.alloc ?_ _) | (refine KH.arr KK.out ?_))); done)); intro e wa ha; obtain ⟨bl, rfl, ga, la, Ra, KK, Ba, Sa⟩ := ha.intro; have HGa := Lib.hid (KK.out w.heap.size (.cells #[.int .i64 (L : Int), .int .i64 (R : Int), v2] 24 (0, 0)) (by repeat (first | with_reducible exact HG1.out | with_reducible exact HGa.out | with_reducible exact HGb.out | (with_reducible refine heap_drew ?_) | (with_reducible refine heap_alloc_keep ?_ _)))); have HXa := Lib.hid (KK.out (w.heap.size + 1) (.cells #[.slice none 0 0, .slice none 0 0] 54 (0, 0)) (by repeat (first | with_reducible exact HX1.out | with_reducible exact HXa.out | with_reducible exact HXb.out | (with_reducible refine heap_drew ?_) | (with_reducible refine heap_alloc_keep ?_ _)))); have a0 : wa.cell? ⟨w.heap.size, 0, none⟩ = some (.int .i64 (L : Int)) := cell_of HGa.out rfl; have a1 : wa.cell? ⟨w.heap.size, 1, none⟩ = some (.int .i64 (R : Int)) := cell_of HGa.out rfl; have a2 : wa.cell? ⟨w.heap.size + 1, 0, none⟩ = some (.slice none 0 0) := cell_of HXa.out rfl; have a3 : wa.cell? ⟨w.heap.size + 1, 1, none⟩ = some (.slice none 0 0) := cell_of HXa.out rfl; have a4 : wa.frozen? ⟨w.heap.size + 1, 0, none⟩ = false := frz_at HXa.out; have a5 : wa.frozen? ⟨w.heap.size + 1, 1, none⟩ = false := frz_at HXa.out; have Ka := KK; clear ha) | (go_at_call 39; (with_reducible refine (repeat_all _ _ _ R hx2 ?_).mono ?_); (focus ((repeat (first | (with_reducible refine ArrI.drew ?_) | ((refine ArrI.new ?_); (focus (first | rfl | (simp; done)))) | (with_reducible refine ArrI.alloc ?_ _) | (refine KH.arr KK.out ?_))); done)); intro e wb hb; obtain ⟨br, rfl, gb, lb, Rb, KK, Bb, Sb⟩ := hb.intro; have HGb := Lib.hid (KK.out w.heap.size (.cells #[.int .i64 (L : Int), .int .i64 (R : Int), v2] 24 (0, 0)) (by repeat (first | with_reducible exact HG1.out | with_reducible exact HGa.out | with_reducible exact HGb.out | (with_reducible refine heap_drew ?_) | (with_reducible refine heap_alloc_keep ?_ _)))); have HXb := Lib.hid (KK.out (w.heap.size + 1) (.cells #[.slice none 0 0, .slice none 0 0] 54 (0, 0)) (by repeat (first | with_reducible exact HX1.out | with_reducible exact HXa.out | with_reducible exact HXb.out | (with_reducible refine heap_drew ?_) | (with_reducible refine heap_alloc_keep ?_ _)))); have b0 : wb.cell? ⟨w.heap.size, 0, none⟩ = some (.int .i64 (L : Int)) := cell_of HGb.out rfl; have b1 : wb.cell? ⟨w.heap.size, 1, none⟩ = some (.int .i64 (R : Int)) := cell_of HGb.out rfl; have b2 : wb.cell? ⟨w.heap.size + 1, 0, none⟩ = some (.slice none 0 0) := cell_of HXb.out rfl; have b3 : wb.cell? ⟨w.heap.size + 1, 1, none⟩ = some (.slice none 0 0) := cell_of HXb.out rfl; have b4 : wb.frozen? ⟨w.heap.size + 1, 0, none⟩ = false := frz_at HXb.out; have b5 : wb.frozen? ⟨w.heap.size + 1, 1, none⟩ = false := frz_at HXb.out; have Kb := KK; clear hb))
  all_goals go_wp2_with fail
  all_goals
    simp at ga gb
    have hne : bl ≠ br := by omega
    have hRa : wb.rowIs bl 3 L (fun _ => i64v (-1)) := KH.row KK.out (by repeat (first | with_reducible exact Ra.out | (with_reducible refine World.rowIs.drew ?_) | (with_reducible refine World.rowIs.alloc ?_ _)))
    have hBa : Below w.heap.size w wa := Ba.out _ _ (by repeat (first | with_reducible exact HB1.out | (with_reducible refine Below.drew ?_) | (with_reducible refine Below.alloc ?_ (by first | omega | (simp; omega)) _))) (by first | omega | (simp; omega))
    have hBb : Below w.heap.size w wb := Bb.out _ _ (by repeat (first | with_reducible exact hBa | (with_reducible refine Below.drew ?_) | (with_reducible refine Below.alloc ?_ (by first | omega | (simp; omega)) _))) (by first | omega | (simp; omega))
    refine bodyPost_ret (v := matV bl br L R) (by simp [results, Try.results34, go_sem, b2, b3, matV]) rfl ⟨bl, br, rfl, by omega, by omega, ⟨hne, ?_, ?_⟩, (hBb.setCell (by show w.heap.size ≤ w.heap.size + 1; omega) _).setCell (by show w.heap.size ≤ w.heap.size + 1; omega) _⟩
    · exact (hRa.setOther (by show bl ≠ w.heap.size + 1; omega) _).setOther (by show bl ≠ w.heap.size + 1; omega) _
    · exact (Rb.out.setOther (by show br ≠ w.heap.size + 1; omega) _).setOther (by show br ≠ w.heap.size + 1; omega) _
end Go.Proofs.Ytolappaekjdcgaa
