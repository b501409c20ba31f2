/-
  No cell of these rows narrows 'for every input' (looked for: loops, veiled, ifaces, maps, wideKeys, modest, calm, conditions, laid).
  DERIVED. THE GIVEN ROWS OF THIS SEAT. 7 by the template 'for every input the law returns true; each argument reads behind the call as it read before'; 0 by the template 'total and deterministic' (their statements: YtikddknhcfhnbaaTotals.lean).
  GIVEN WITH THE SEED: the statements are not yours to turn. If you find one false, say at which input.
  Laid BY PROGRAM, IN A SANDBOX (cutbox-rows.mjs): the forced cells as the released guide's own fill.sh prints them over the translation c33a96776e6ca0e1… (all of the seat's roots in one cut). By AI agents, Wed Nov 11 2026. No macro, syntax, notation, axiom, sorry.
-/
import Derived.Test.YtikddknhcfhnbaaChecked
import GoSem.Claim
import GoSem.ClaimJoined
import GoSem.ClaimMapViews
import Derived.JoinedTies
import Derived.KernelRfl
namespace Go.Proofs.Ytikddknhcfhnbaa
/- THE CELL 'sum', in the pinned program and in every row, IS THE sha256 OF THE DUMP (.gsa) THAT YtikddknhcfhnbaaProg.lean LOADS. Nothing in Lean hashes anything: it is a label: what it is worth is what the hold of that sum in a sandbox is worth. -/
noncomputable def Try.pinned : Pinned := { name := "ytikddknhcfhnbaa", sum := "c33a96776e6ca0e1d89d7d9c5369d03624baf9ad3251ff0cdfcb33fac6c1c256", checked := Try.checked }
namespace Rows
def none {H : Type} : Left H := { results := [], args := [] }

/-- 'assizelaw27.FlowCheckSpec': WHATEVER THE INPUT: true; the input reads as it did. -/
def flowCheckSpecSpec : ChangeSpec := { name := "flowCheckSpec", fn := fun _ => fun
  | [d1, d2, d3] => { results := [.lit (.bool true)], args := [d1, d2, d3] }
  | _ => none }
def flowCheckSpecRow : OpenClaim := { program := "ytikddknhcfhnbaa", sum := "c33a96776e6ca0e1d89d7d9c5369d03624baf9ad3251ff0cdfcb33fac6c1c256", func := "assize/assizelaw27.FlowCheckSpec", spec := "flowCheckSpec", unfollowed := true, recurses := true, apart := false }
def FlowCheckSpecSaid : Prop := flowCheckSpecRow.holds Try.pinned (OpenSpec.ofChange flowCheckSpecSpec)

/-- ITS FALSE NEIGHBOUR: 'it returns false'. Refute it at one input. -/
def flowCheckSpecWrong : ChangeSpec := { name := "flowCheckSpec", fn := fun _ => fun
  | [d1, d2, d3] => { results := [.lit (.bool false)], args := [d1, d2, d3] }
  | _ => none }
def FlowCheckSpecWrongFalsely : Prop := flowCheckSpecRow.holds Try.pinned (OpenSpec.ofChange flowCheckSpecWrong)

/-- 'assizelaw27.FlowMaxSpec': WHATEVER THE INPUT: true; the input reads as it did. -/
def flowMaxSpecSpec : ChangeSpec := { name := "flowMaxSpec", fn := fun _ => fun
  | [d] => { results := [.lit (.bool true)], args := [d] }
  | _ => none }
def flowMaxSpecRow : OpenClaim := { program := "ytikddknhcfhnbaa", sum := "c33a96776e6ca0e1d89d7d9c5369d03624baf9ad3251ff0cdfcb33fac6c1c256", func := "assize/assizelaw27.FlowMaxSpec", spec := "flowMaxSpec", unfollowed := true, recurses := true, apart := false }
def FlowMaxSpecSaid : Prop := flowMaxSpecRow.holds Try.pinned (OpenSpec.ofChange flowMaxSpecSpec)

/-- ITS FALSE NEIGHBOUR: 'it returns false'. Refute it at one input. -/
def flowMaxSpecWrong : ChangeSpec := { name := "flowMaxSpec", fn := fun _ => fun
  | [d] => { results := [.lit (.bool false)], args := [d] }
  | _ => none }
def FlowMaxSpecWrongFalsely : Prop := flowMaxSpecRow.holds Try.pinned (OpenSpec.ofChange flowMaxSpecWrong)

/-- 'assizelaw27.FlowPathsSpec': WHATEVER THE INPUT: true; the input reads as it did. -/
def flowPathsSpecSpec : ChangeSpec := { name := "flowPathsSpec", fn := fun _ => fun
  | [d1, d2] => { results := [.lit (.bool true)], args := [d1, d2] }
  | _ => none }
def flowPathsSpecRow : OpenClaim := { program := "ytikddknhcfhnbaa", sum := "c33a96776e6ca0e1d89d7d9c5369d03624baf9ad3251ff0cdfcb33fac6c1c256", func := "assize/assizelaw27.FlowPathsSpec", spec := "flowPathsSpec", unfollowed := true, recurses := true, apart := false }
def FlowPathsSpecSaid : Prop := flowPathsSpecRow.holds Try.pinned (OpenSpec.ofChange flowPathsSpecSpec)

/-- ITS FALSE NEIGHBOUR: 'it returns false'. Refute it at one input. -/
def flowPathsSpecWrong : ChangeSpec := { name := "flowPathsSpec", fn := fun _ => fun
  | [d1, d2] => { results := [.lit (.bool false)], args := [d1, d2] }
  | _ => none }
def FlowPathsSpecWrongFalsely : Prop := flowPathsSpecRow.holds Try.pinned (OpenSpec.ofChange flowPathsSpecWrong)

/-- 'assizelaw27.FlowDuality': WHATEVER THE INPUT: true; the input reads as it did. -/
def flowDualitySpec : ChangeSpec := { name := "flowDuality", fn := fun _ => fun
  | [d1, d2, d3] => { results := [.lit (.bool true)], args := [d1, d2, d3] }
  | _ => none }
def flowDualityRow : OpenClaim := { program := "ytikddknhcfhnbaa", sum := "c33a96776e6ca0e1d89d7d9c5369d03624baf9ad3251ff0cdfcb33fac6c1c256", func := "assize/assizelaw27.FlowDuality", spec := "flowDuality", unfollowed := true, recurses := true, apart := false }
def FlowDualitySaid : Prop := flowDualityRow.holds Try.pinned (OpenSpec.ofChange flowDualitySpec)

/-- ITS FALSE NEIGHBOUR: 'it returns false'. Refute it at one input. -/
def flowDualityWrong : ChangeSpec := { name := "flowDuality", fn := fun _ => fun
  | [d1, d2, d3] => { results := [.lit (.bool false)], args := [d1, d2, d3] }
  | _ => none }
def FlowDualityWrongFalsely : Prop := flowDualityRow.holds Try.pinned (OpenSpec.ofChange flowDualityWrong)

/-- 'assizelaw27.FlowOrder': WHATEVER THE INPUT: true; the input reads as it did. -/
def flowOrderSpec : ChangeSpec := { name := "flowOrder", fn := fun _ => fun
  | [d1, d2, d3] => { results := [.lit (.bool true)], args := [d1, d2, d3] }
  | _ => none }
def flowOrderRow : OpenClaim := { program := "ytikddknhcfhnbaa", sum := "c33a96776e6ca0e1d89d7d9c5369d03624baf9ad3251ff0cdfcb33fac6c1c256", func := "assize/assizelaw27.FlowOrder", spec := "flowOrder", unfollowed := true, recurses := true, apart := false }
def FlowOrderSaid : Prop := flowOrderRow.holds Try.pinned (OpenSpec.ofChange flowOrderSpec)

/-- ITS FALSE NEIGHBOUR: 'it returns false'. Refute it at one input. -/
def flowOrderWrong : ChangeSpec := { name := "flowOrder", fn := fun _ => fun
  | [d1, d2, d3] => { results := [.lit (.bool false)], args := [d1, d2, d3] }
  | _ => none }
def FlowOrderWrongFalsely : Prop := flowOrderRow.holds Try.pinned (OpenSpec.ofChange flowOrderWrong)

/-- 'assizelaw27.FlowGrows': WHATEVER THE INPUT: true; the input reads as it did. -/
def flowGrowsSpec : ChangeSpec := { name := "flowGrows", fn := fun _ => fun
  | [d1, d2, d3, d4] => { results := [.lit (.bool true)], args := [d1, d2, d3, d4] }
  | _ => none }
def flowGrowsRow : OpenClaim := { program := "ytikddknhcfhnbaa", sum := "c33a96776e6ca0e1d89d7d9c5369d03624baf9ad3251ff0cdfcb33fac6c1c256", func := "assize/assizelaw27.FlowGrows", spec := "flowGrows", unfollowed := true, recurses := true, apart := false }
def FlowGrowsSaid : Prop := flowGrowsRow.holds Try.pinned (OpenSpec.ofChange flowGrowsSpec)

/-- ITS FALSE NEIGHBOUR: 'it returns false'. Refute it at one input. -/
def flowGrowsWrong : ChangeSpec := { name := "flowGrows", fn := fun _ => fun
  | [d1, d2, d3, d4] => { results := [.lit (.bool false)], args := [d1, d2, d3, d4] }
  | _ => none }
def FlowGrowsWrongFalsely : Prop := flowGrowsRow.holds Try.pinned (OpenSpec.ofChange flowGrowsWrong)

/-- 'assizelaw27.FlowSaturates': WHATEVER THE INPUT: true; the input reads as it did. -/
def flowSaturatesSpec : ChangeSpec := { name := "flowSaturates", fn := fun _ => fun
  | [d] => { results := [.lit (.bool true)], args := [d] }
  | _ => none }
def flowSaturatesRow : OpenClaim := { program := "ytikddknhcfhnbaa", sum := "c33a96776e6ca0e1d89d7d9c5369d03624baf9ad3251ff0cdfcb33fac6c1c256", func := "assize/assizelaw27.FlowSaturates", spec := "flowSaturates", unfollowed := true, recurses := true, apart := false }
def FlowSaturatesSaid : Prop := flowSaturatesRow.holds Try.pinned (OpenSpec.ofChange flowSaturatesSpec)

/-- ITS FALSE NEIGHBOUR: 'it returns false'. Refute it at one input. -/
def flowSaturatesWrong : ChangeSpec := { name := "flowSaturates", fn := fun _ => fun
  | [d] => { results := [.lit (.bool false)], args := [d] }
  | _ => none }
def FlowSaturatesWrongFalsely : Prop := flowSaturatesRow.holds Try.pinned (OpenSpec.ofChange flowSaturatesWrong)

/- THE SECOND FORM. 'bulk': how many values and letters a reading holds, each counted each time it is reached (what is shared counts as often as it is met; a slice's spare places count too). A statement '..UptoSaid' is the law's where the arguments, and the package variables that the reading takes, are together of bulk at most 1048576: NARROWER than '..Said'. Prove '..Said' where nothing that the law and all that it calls make is longer than what came in: it says more and counts as full. Else prove '..UptoSaid'. A law counts once. -/
mutual
def uptoBulk {H : Type} : DataW H → Nat
  | .lit (.string bytes) => bytes.length + 1
  | .lit _ => 1
  | .nil => 1
  | .ptr d => uptoBulk d + 1
  | .slice elems spare => uptoBulkAll elems + uptoBulkAll spare + 1
  | .agg parts => uptoBulkAll parts + 1
  | .iface _ d => uptoBulk d + 1
  | .map entries => uptoBulkEntries entries + 1
  | .held _ => 1
def uptoBulkAll {H : Type} : List (DataW H) → Nat
  | [] => 0
  | d :: r => uptoBulk d + uptoBulkAll r
def uptoBulkEntries {H : Type} : List (Lit × DataW H) → Nat
  | [] => 0
  | x :: r => uptoBulkEntry x + uptoBulkEntries r
def uptoBulkEntry {H : Type} : Lit × DataW H → Nat
  | (.string bytes, d) => bytes.length + uptoBulk d + 1
  | (_, d) => uptoBulk d + 1
 end
def uptoSmall : (H : Type) → List (DataW H) → Bool := fun _ ds => decide (uptoBulkAll ds ≤ 1048576)
def OpenSpec.upto (s : _root_.Go.ChangeSpec) : _root_.Go.OpenSpec := { _root_.Go.OpenSpec.ofChange s with cond := some uptoSmall }

/-- 'assizelaw27.FlowCheckSpec', WHERE WHAT IT READS IS OF BULK AT MOST 1048576: true; the input reads as it did. -/
def flowCheckSpecUptoRow : OpenClaim := { program := "ytikddknhcfhnbaa", sum := "c33a96776e6ca0e1d89d7d9c5369d03624baf9ad3251ff0cdfcb33fac6c1c256", func := "assize/assizelaw27.FlowCheckSpec", spec := "flowCheckSpec", unfollowed := true, recurses := true, apart := false, narrowed := true }
def FlowCheckSpecUptoSaid : Prop := flowCheckSpecUptoRow.holds Try.pinned (OpenSpec.upto flowCheckSpecSpec)

/-- 'assizelaw27.FlowMaxSpec', WHERE WHAT IT READS IS OF BULK AT MOST 1048576: true; the input reads as it did. -/
def flowMaxSpecUptoRow : OpenClaim := { program := "ytikddknhcfhnbaa", sum := "c33a96776e6ca0e1d89d7d9c5369d03624baf9ad3251ff0cdfcb33fac6c1c256", func := "assize/assizelaw27.FlowMaxSpec", spec := "flowMaxSpec", unfollowed := true, recurses := true, apart := false, narrowed := true }
def FlowMaxSpecUptoSaid : Prop := flowMaxSpecUptoRow.holds Try.pinned (OpenSpec.upto flowMaxSpecSpec)

/-- 'assizelaw27.FlowPathsSpec', WHERE WHAT IT READS IS OF BULK AT MOST 1048576: true; the input reads as it did. -/
def flowPathsSpecUptoRow : OpenClaim := { program := "ytikddknhcfhnbaa", sum := "c33a96776e6ca0e1d89d7d9c5369d03624baf9ad3251ff0cdfcb33fac6c1c256", func := "assize/assizelaw27.FlowPathsSpec", spec := "flowPathsSpec", unfollowed := true, recurses := true, apart := false, narrowed := true }
def FlowPathsSpecUptoSaid : Prop := flowPathsSpecUptoRow.holds Try.pinned (OpenSpec.upto flowPathsSpecSpec)

/-- 'assizelaw27.FlowDuality', WHERE WHAT IT READS IS OF BULK AT MOST 1048576: true; the input reads as it did. -/
def flowDualityUptoRow : OpenClaim := { program := "ytikddknhcfhnbaa", sum := "c33a96776e6ca0e1d89d7d9c5369d03624baf9ad3251ff0cdfcb33fac6c1c256", func := "assize/assizelaw27.FlowDuality", spec := "flowDuality", unfollowed := true, recurses := true, apart := false, narrowed := true }
def FlowDualityUptoSaid : Prop := flowDualityUptoRow.holds Try.pinned (OpenSpec.upto flowDualitySpec)

/-- 'assizelaw27.FlowOrder', WHERE WHAT IT READS IS OF BULK AT MOST 1048576: true; the input reads as it did. -/
def flowOrderUptoRow : OpenClaim := { program := "ytikddknhcfhnbaa", sum := "c33a96776e6ca0e1d89d7d9c5369d03624baf9ad3251ff0cdfcb33fac6c1c256", func := "assize/assizelaw27.FlowOrder", spec := "flowOrder", unfollowed := true, recurses := true, apart := false, narrowed := true }
def FlowOrderUptoSaid : Prop := flowOrderUptoRow.holds Try.pinned (OpenSpec.upto flowOrderSpec)

/-- 'assizelaw27.FlowGrows', WHERE WHAT IT READS IS OF BULK AT MOST 1048576: true; the input reads as it did. -/
def flowGrowsUptoRow : OpenClaim := { program := "ytikddknhcfhnbaa", sum := "c33a96776e6ca0e1d89d7d9c5369d03624baf9ad3251ff0cdfcb33fac6c1c256", func := "assize/assizelaw27.FlowGrows", spec := "flowGrows", unfollowed := true, recurses := true, apart := false, narrowed := true }
def FlowGrowsUptoSaid : Prop := flowGrowsUptoRow.holds Try.pinned (OpenSpec.upto flowGrowsSpec)

/-- 'assizelaw27.FlowSaturates', WHERE WHAT IT READS IS OF BULK AT MOST 1048576: true; the input reads as it did. -/
def flowSaturatesUptoRow : OpenClaim := { program := "ytikddknhcfhnbaa", sum := "c33a96776e6ca0e1d89d7d9c5369d03624baf9ad3251ff0cdfcb33fac6c1c256", func := "assize/assizelaw27.FlowSaturates", spec := "flowSaturates", unfollowed := true, recurses := true, apart := false, narrowed := true }
def FlowSaturatesUptoSaid : Prop := flowSaturatesUptoRow.holds Try.pinned (OpenSpec.upto flowSaturatesSpec)

end Rows
end Go.Proofs.Ytikddknhcfhnbaa
