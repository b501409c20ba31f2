/- network; Max and Paths on good networks. -/
import Derived.Test.YtikddknhcfhnbaaF4
import Derived.Test.YtikddknhcfhnbaaC5
import Derived.Test.YtikddknhcfhnbaaZ2
namespace Go.Proofs.Ytikddknhcfhnbaa
open Go.RowKit Go.Deep
def NetW (v : Value) (w : World) (e : Ending) (w' : World) : Prop := e = .returned v ∧ Below w.heap.size w w'
theorem network_any (w : World) (x : Int) (A : Option Addr) (l c : Nat) : Calls Try.prog 23 #[.int .i64 x, .slice A l c] w (NetW (.agg #[.int .i64 x, .slice A l c]) w) := by
  go_enter Try.func23, Try.ntmps23
  go_wp2_with fail
  refine bodyPost_ret (v := .agg #[.int .i64 x, .slice A l c]) (by simp [results, Try.results23, go_sem]) rfl ?_
  exact ⟨rfl, (Below.refl _ _).alloc (Nat.le_refl _) _⟩
theorem max_yes (w : World) (M : Nat → Prop) (v : Value) (n : NetD) (h : IsNet w M v n) (hch : chkN n = true) : Calls Try.prog 18 #[v] w fun e w' =>
    ∃ V fl val sd v1 v2, NOk n V ∧ e = .returned (.tuple #[v1, .int .i64 val, v2, .int .i64 0]) ∧ Best n V fl val sd ∧ IsInts w' (fun b => w.heap.size ≤ b) v1 fl ∧ IsInts w' (fun b => w.heap.size ≤ b) v2 sd ∧ Below w.heap.size w w' := by
  refine (max_any w M v n h).mono fun e w' ⟨hb, hor⟩ => ?_
  rcases hor with ⟨h1, -⟩ | ⟨V, fl, val, sd, v1, v2, hn, h1, he, hp, hi1, hi2⟩
  · rw [hch] at h1; cases h1
  · exact ⟨V, fl, val, sd, v1, v2, hn, he, best_of hch hn hp, hi1, hi2, hb⟩
theorem max_no (w : World) (M : Nat → Prop) (v : Value) (n : NetD) (h : IsNet w M v n) (hch : chkN n = false) : Calls Try.prog 18 #[v] w fun e w' =>
    e = .returned (.tuple #[.slice none 0 0, .int .i64 0, .slice none 0 0, .int .i64 270]) ∧ Below w.heap.size w w' := by
  refine (max_any w M v n h).mono fun e w' ⟨hb, hor⟩ => ?_
  rcases hor with ⟨-, he⟩ | ⟨V, fl, val, sd, v1, v2, hn, h1, -⟩
  · exact ⟨he, hb⟩
  · rw [hch] at h1; cases h1
end Go.Proofs.Ytikddknhcfhnbaa
