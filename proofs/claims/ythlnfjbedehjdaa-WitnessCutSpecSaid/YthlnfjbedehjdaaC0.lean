/- A region that draws its order, in a round: walked as a plain one. -/
import Derived.Test.YthlnfjbedehjdaaRf
import Derived.Test.YthlnfjbedehjdaaTk
import Derived.OrdersIn
namespace Go.Proofs.Ythlnfjbedehjdaa
open Go.RowKit

def noDefer (ops : Array Oper) : Bool := ops.all fun o => match o.op with | .defer _ => false | _ => true
theorem noDefer_at {ops : Array Oper} (h : noDefer ops = true) {i : Nat} {o : Oper} (hi : ops[i]? = some o) : ∀ c, o.op ≠ .defer c := fun c e => by
  unfold noDefer at h
  rw [Array.all_eq_true] at h
  obtain ⟨hlt, rfl⟩ := Array.getElem?_eq_some_iff.1 hi
  have := h i hlt
  rw [e] at this
  cases this
section
variable {P : Program} {ops : Array Oper} {Q : Exit → Act → World → Prop} {md : Region.Mode} {l n : Nat}
theorem rowsIn_wideR {row : String} {args : Array Value} {w : World} {R : Value → World → Prop} (h : Rows P row args w R) : RowsIn (Fence.wide.inRound l) n P row args w R := fun c cs _ => by
  obtain ⟨v, w', r, s⟩ := h c cs
  exact ⟨v, w', r, stepsIn_wide.2 s⟩
theorem operIn_wide {o : Oper} (ho : ∀ c, o.op ≠ .defer c) {a : Act} {w : World} {K : Act → World → Prop} (h : o.wp P a w K Q) : o.wpIn (Fence.wide.inRound l) n P a w K Q := by
  unfold Oper.wp at h
  unfold Oper.wpIn
  refine ⟨fun _ _ => trivial, ?_⟩
  rw [Oper.semAt_eq _ _ _ ho]
  generalize (execOp a.eval o).run P w = r at h
  cases r with
  | ok x w' =>
    cases x <;> simp only [Oper.upon] at h <;> simp only [Oper.uponIn]
    case value => exact h
    case skip => exact h
    case defer => exact h
    case enter f args => exact ⟨fun e => (by cases e), callsIn_wide.2 h⟩
    case row => exact ⟨fun e => (by cases e), rowsIn_wideR h⟩
  | halt x w' =>
    cases x <;> simp only [Oper.upon] at h <;> simp only [Oper.uponIn]
    case panic => exact h
theorem anyIn_round (hnd : noDefer ops = true) (hq : ¬ LetsOut Q) : ∀ (fuel : Nat) (listed : Array Bool) (a : Act) (w : World), wpAny P md ops Q fuel listed a w → wpAnyIn (Fence.wide.inRound l) n P md ops Q fuel listed a w
  | 0, _, _, _, h => h
  | fuel + 1, listed, a, w, h => ⟨h.1, fun i hi => by
    have h1 := h.2 i hi
    unfold wpOp at h1
    unfold wpOpIn
    cases ho : ops[i]? with
    | none => rw [ho] at h1; exact anyIn_round hnd hq fuel _ _ _ h1
    | some o =>
      rw [ho] at h1
      simp only at h1 ⊢
      by_cases hw : Region.wanted o (yielded ops a.tmps) = true
      · rw [if_pos hw] at h1
        rw [if_pos hw]
        rcases h1 with h1 | ⟨_, h1⟩
        · exact Oper.wpIn_mono (fun a w => anyIn_round hnd hq fuel _ a w) (operIn_wide (noDefer_at hnd ho) h1)
        · exact absurd h1 hq
      · rw [if_neg hw] at h1
        rw [if_neg hw]
        exact ⟨fun _ _ => trivial, anyIn_round hnd hq fuel _ _ _ h1⟩⟩
/-- a region that draws, in a round: S holds behind each operation -/
theorem round_region {S : World → Prop} {id : Nat} {a : Act} {w : World} (hm : P.follows .mixedOrders = true) (hnd : noDefer ops = true) (hq : ¬ LetsOut Q) (hS : S w.drew)
    (h : S w.drew → wpAnyH P .any ops Q S ops.size (Array.replicate ops.size false) a w.drew) : (Code.region id ops true).wpIn (Fence.wide.inRound l) n P Q a w :=
  wpIn_region_any hm (anyIn_round hnd hq _ _ _ _ (wpAny_of_held _ _ _ _ (h hS)))
/-- what is asked of a piece that does not panic -/
def calm (Q : Exit → Act → World → Prop) : Exit → Act → World → Prop
  | .normal, a, w => Q .normal a w
  | _, _, _ => False
theorem wp_calm {c : Code} {a : Act} {w : World} (h : c.wp P (calm Q) a w) : c.wp P Q a w := wp_mono h fun e _ _ he => by
  cases e
  case normal => exact he
  all_goals exact he.elim
end
end Go.Proofs.Ythlnfjbedehjdaa
