/- newMatch: two own rows of -1. -/
import Derived.Test.YtolappaekjdcgaaA4
import Derived.Test.YtolappaekjdcgaaRep
namespace Go.Proofs.Ytolappaekjdcgaa
open Go.RowKit Go.Shelf Go.Deep
/-- the array of one int -/
def ArrI (w : World) (b : Nat) (x : Value) : Prop := w.heap[b]? = some (.cells #[x] 3 (0, 0))
theorem ArrI.new {w : World} {b : Nat} {x : Value} (h : b = w.heap.size) : ArrI (w.alloc (.cells #[x] 3)) b x := by
  show (w.alloc (.cells #[x] 3)).heap[b]? = _
  rw [heap_alloc_if, if_pos h]
theorem ArrI.alloc {w : World} {b : Nat} {x : Value} (h : ArrI w b x) (o : Obj) : ArrI (w.alloc o) b x := (Below.heap_alloc _ _ _ (lt_heap h)).trans h
theorem ArrI.drew {w : World} {b : Nat} {x : Value} (h : ArrI w b x) : ArrI w.drew b x := h
theorem repeat_none (w : World) (ad : Addr) (c : Nat) (u : Value) : Calls Try.prog 39 #[.slice (some ad) 1 c, .int .i64 ((0 : Nat) : Int)] w (RepW w 0 u) := by
  have hmk : ∀ W, (Instr.makeSlice 25 (.int .i64 0) (.int .i64 0)).run Try.prog W = .ok (.slice (some ⟨W.heap.size, 0, none⟩) 0 0) (W.alloc (.cells #[] 3)) := fun W => makeNils 0 (by omega) W
  have M1 := Lib.hid (mul1 0 (by omega) w)
  have hsl : (Try.prog.info? 3).map (·.size) = some 1 := by kernel_rfl
  go_enter Try.func39, Try.ntmps39
  go_wp2_with fail
  refine M1.out.mono ?_
  rintro e w' ⟨rfl, rfl⟩
  go_wp2_with (with_reducible refine wpList_copy_nothing rfl _ _ 25 25 rfl 3 Try.underlying25 hsl _ _ 0 0 1 c rfl rfl rfl ?_)
  go_loopw [8] (fun i wr => i = .int .i64 0 ∧ wr = w.alloc (.cells #[] 3)) (fun _ _ => 0)
  case atStart => exact ⟨rfl, rfl⟩
  case round =>
    obtain ⟨rfl, rfl⟩ := hrel
    go_wp2_with fail
    go_ret
    exact ⟨rfl, by rw [heap_alloc_if, if_pos rfl]; rfl, (Below.refl _ _).alloc (Nat.le_refl _) _⟩
/-- Repeat, whatever the number -/
def RepR (w : World) (n : Nat) (e : Ending) (w' : World) : Prop := ∃ b, e = .returned (.slice (some ⟨b, 0, none⟩) n n) ∧ w.heap.size ≤ b ∧ w'.rowIs b 3 n (fun _ => i64v (-1)) ∧ Below w.heap.size w w'
theorem repeat_all (w : World) (b c n : Nat) (hn : n ≤ 4096) (hc : ArrI w b (i64v (-1))) : Calls Try.prog 39 #[.slice (some ⟨b, 0, none⟩) 1 c, .int .i64 n] w (RepR w n) := by
  have hrow : ∀ w', RepW w n (i64v (-1)) (.returned (.slice (some ⟨w.heap.size, 0, none⟩) n n)) w' → w'.rowIs w.heap.size 3 n (fun _ => i64v (-1)) := fun w' h => by
    refine ⟨_, h.2.1, by simp, fun i hi => by simp [hi]⟩
  rcases Nat.eq_zero_or_pos n with h0 | h1
  · subst h0
    refine (repeat_none w _ c (i64v (-1))).mono fun e w' h => ⟨w.heap.size, h.1, Nat.le_refl _, hrow w' ⟨rfl, h.2⟩, h.2.2⟩
  · refine (repeat_any w _ c n (i64v (-1)) h1 hn (cell_of hc rfl) rfl).mono fun e w' h => ⟨w.heap.size, h.1, Nat.le_refl _, hrow w' ⟨rfl, h.2⟩, h.2.2⟩
end Go.Proofs.Ytolappaekjdcgaa
