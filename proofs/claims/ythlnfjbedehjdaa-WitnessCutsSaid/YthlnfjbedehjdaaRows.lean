/-
  No cell of these rows narrows 'for every input' (looked for: loops, veiled, ifaces, maps, wideKeys, modest, calm, conditions, laid).
  DERIVED. THE GIVEN ROWS OF THIS SEAT. 7 by the template 'for every input the law returns true; each argument reads behind the call as it read before'; 0 by the template 'total and deterministic' (their statements: YthlnfjbedehjdaaTotals.lean).
  GIVEN WITH THE SEED: the statements are not yours to turn. If you find one false, say at which input.
  Laid BY PROGRAM, IN A SANDBOX (cutbox-rows.mjs): the forced cells as the released guide's own fill.sh prints them over the translation 08e51ad4f56cbc71… (all of the seat's roots in one cut). By AI agents, Wed Nov 11 2026. No macro, syntax, notation, axiom, sorry.
-/
import Derived.Test.YthlnfjbedehjdaaChecked
import GoSem.Claim
import GoSem.ClaimJoined
import GoSem.ClaimMapViews
import Derived.JoinedTies
import Derived.KernelRfl
namespace Go.Proofs.Ythlnfjbedehjdaa
/- THE CELL 'sum', in the pinned program and in every row, IS THE sha256 OF THE DUMP (.gsa) THAT YthlnfjbedehjdaaProg.lean LOADS. Nothing in Lean hashes anything: it is a label: what it is worth is what the hold of that sum in a sandbox is worth. -/
noncomputable def Try.pinned : Pinned := { name := "ythlnfjbedehjdaa", sum := "08e51ad4f56cbc71e8fbc829eb5f801d165009b71e3faf02eb0e7f1e88dfba80", checked := Try.checked }
namespace Rows
def none {H : Type} : Left H := { results := [], args := [] }

/-- 'assizelaw29.WitnessCompletionSpec': WHATEVER THE INPUT: true; the input reads as it did. -/
def witnessCompletionSpecSpec : ChangeSpec := { name := "witnessCompletionSpec", fn := fun _ => fun
  | [d1, d2] => { results := [.lit (.bool true)], args := [d1, d2] }
  | _ => none }
def witnessCompletionSpecRow : OpenClaim := { program := "ythlnfjbedehjdaa", sum := "08e51ad4f56cbc71e8fbc829eb5f801d165009b71e3faf02eb0e7f1e88dfba80", func := "assize/assizelaw29.WitnessCompletionSpec", spec := "witnessCompletionSpec", unfollowed := true, recurses := true, plainKeys := false, apart := false }
def WitnessCompletionSpecSaid : Prop := witnessCompletionSpecRow.holds Try.pinned (OpenSpec.ofChange witnessCompletionSpecSpec)

/-- ITS FALSE NEIGHBOUR: 'it returns false'. Refute it at one input. -/
def witnessCompletionSpecWrong : ChangeSpec := { name := "witnessCompletionSpec", fn := fun _ => fun
  | [d1, d2] => { results := [.lit (.bool false)], args := [d1, d2] }
  | _ => none }
def WitnessCompletionSpecWrongFalsely : Prop := witnessCompletionSpecRow.holds Try.pinned (OpenSpec.ofChange witnessCompletionSpecWrong)

/-- 'assizelaw29.WitnessCutSpec': WHATEVER THE INPUT: true; the input reads as it did. -/
def witnessCutSpecSpec : ChangeSpec := { name := "witnessCutSpec", fn := fun _ => fun
  | [d1, d2, d3] => { results := [.lit (.bool true)], args := [d1, d2, d3] }
  | _ => none }
def witnessCutSpecRow : OpenClaim := { program := "ythlnfjbedehjdaa", sum := "08e51ad4f56cbc71e8fbc829eb5f801d165009b71e3faf02eb0e7f1e88dfba80", func := "assize/assizelaw29.WitnessCutSpec", spec := "witnessCutSpec", unfollowed := true, recurses := true, plainKeys := false, apart := false }
def WitnessCutSpecSaid : Prop := witnessCutSpecRow.holds Try.pinned (OpenSpec.ofChange witnessCutSpecSpec)

/-- ITS FALSE NEIGHBOUR: 'it returns false'. Refute it at one input. -/
def witnessCutSpecWrong : ChangeSpec := { name := "witnessCutSpec", fn := fun _ => fun
  | [d1, d2, d3] => { results := [.lit (.bool false)], args := [d1, d2, d3] }
  | _ => none }
def WitnessCutSpecWrongFalsely : Prop := witnessCutSpecRow.holds Try.pinned (OpenSpec.ofChange witnessCutSpecWrong)

/-- 'assizelaw29.WitnessCheckSpec': WHATEVER THE INPUT: true; the input reads as it did. -/
def witnessCheckSpecSpec : ChangeSpec := { name := "witnessCheckSpec", fn := fun _ => fun
  | [d1, d2] => { results := [.lit (.bool true)], args := [d1, d2] }
  | _ => none }
def witnessCheckSpecRow : OpenClaim := { program := "ythlnfjbedehjdaa", sum := "08e51ad4f56cbc71e8fbc829eb5f801d165009b71e3faf02eb0e7f1e88dfba80", func := "assize/assizelaw29.WitnessCheckSpec", spec := "witnessCheckSpec", unfollowed := true, recurses := true, plainKeys := false, apart := false }
def WitnessCheckSpecSaid : Prop := witnessCheckSpecRow.holds Try.pinned (OpenSpec.ofChange witnessCheckSpecSpec)

/-- ITS FALSE NEIGHBOUR: 'it returns false'. Refute it at one input. -/
def witnessCheckSpecWrong : ChangeSpec := { name := "witnessCheckSpec", fn := fun _ => fun
  | [d1, d2] => { results := [.lit (.bool false)], args := [d1, d2] }
  | _ => none }
def WitnessCheckSpecWrongFalsely : Prop := witnessCheckSpecRow.holds Try.pinned (OpenSpec.ofChange witnessCheckSpecWrong)

/-- 'assizelaw29.WitnessSound': WHATEVER THE INPUT: true; the input reads as it did. -/
def witnessSoundSpec : ChangeSpec := { name := "witnessSound", fn := fun _ => fun
  | [d1, d2, d3] => { results := [.lit (.bool true)], args := [d1, d2, d3] }
  | _ => none }
def witnessSoundRow : OpenClaim := { program := "ythlnfjbedehjdaa", sum := "08e51ad4f56cbc71e8fbc829eb5f801d165009b71e3faf02eb0e7f1e88dfba80", func := "assize/assizelaw29.WitnessSound", spec := "witnessSound", unfollowed := true, recurses := true, plainKeys := false, apart := false }
def WitnessSoundSaid : Prop := witnessSoundRow.holds Try.pinned (OpenSpec.ofChange witnessSoundSpec)

/-- ITS FALSE NEIGHBOUR: 'it returns false'. Refute it at one input. -/
def witnessSoundWrong : ChangeSpec := { name := "witnessSound", fn := fun _ => fun
  | [d1, d2, d3] => { results := [.lit (.bool false)], args := [d1, d2, d3] }
  | _ => none }
def WitnessSoundWrongFalsely : Prop := witnessSoundRow.holds Try.pinned (OpenSpec.ofChange witnessSoundWrong)

/-- 'assizelaw29.WitnessOne': WHATEVER THE INPUT: true; the input reads as it did. -/
def witnessOneSpec : ChangeSpec := { name := "witnessOne", fn := fun _ => fun
  | [d1, d2, d3] => { results := [.lit (.bool true)], args := [d1, d2, d3] }
  | _ => none }
def witnessOneRow : OpenClaim := { program := "ythlnfjbedehjdaa", sum := "08e51ad4f56cbc71e8fbc829eb5f801d165009b71e3faf02eb0e7f1e88dfba80", func := "assize/assizelaw29.WitnessOne", spec := "witnessOne", unfollowed := true, recurses := true, plainKeys := false, apart := false }
def WitnessOneSaid : Prop := witnessOneRow.holds Try.pinned (OpenSpec.ofChange witnessOneSpec)

/-- ITS FALSE NEIGHBOUR: 'it returns false'. Refute it at one input. -/
def witnessOneWrong : ChangeSpec := { name := "witnessOne", fn := fun _ => fun
  | [d1, d2, d3] => { results := [.lit (.bool false)], args := [d1, d2, d3] }
  | _ => none }
def WitnessOneWrongFalsely : Prop := witnessOneRow.holds Try.pinned (OpenSpec.ofChange witnessOneWrong)

/-- 'assizelaw29.WitnessCuts': WHATEVER THE INPUT: true; the input reads as it did. -/
def witnessCutsSpec : ChangeSpec := { name := "witnessCuts", fn := fun _ => fun
  | [d1, d2, d3, d4] => { results := [.lit (.bool true)], args := [d1, d2, d3, d4] }
  | _ => none }
def witnessCutsRow : OpenClaim := { program := "ythlnfjbedehjdaa", sum := "08e51ad4f56cbc71e8fbc829eb5f801d165009b71e3faf02eb0e7f1e88dfba80", func := "assize/assizelaw29.WitnessCuts", spec := "witnessCuts", unfollowed := true, recurses := true, plainKeys := false, apart := false }
def WitnessCutsSaid : Prop := witnessCutsRow.holds Try.pinned (OpenSpec.ofChange witnessCutsSpec)

/-- ITS FALSE NEIGHBOUR: 'it returns false'. Refute it at one input. -/
def witnessCutsWrong : ChangeSpec := { name := "witnessCuts", fn := fun _ => fun
  | [d1, d2, d3, d4] => { results := [.lit (.bool false)], args := [d1, d2, d3, d4] }
  | _ => none }
def WitnessCutsWrongFalsely : Prop := witnessCutsRow.holds Try.pinned (OpenSpec.ofChange witnessCutsWrong)

/-- 'assizelaw29.WitnessDecides': WHATEVER THE INPUT: true; the input reads as it did. -/
def witnessDecidesSpec : ChangeSpec := { name := "witnessDecides", fn := fun _ => fun
  | [d1, d2] => { results := [.lit (.bool true)], args := [d1, d2] }
  | _ => none }
def witnessDecidesRow : OpenClaim := { program := "ythlnfjbedehjdaa", sum := "08e51ad4f56cbc71e8fbc829eb5f801d165009b71e3faf02eb0e7f1e88dfba80", func := "assize/assizelaw29.WitnessDecides", spec := "witnessDecides", unfollowed := true, recurses := true, plainKeys := false, apart := false }
def WitnessDecidesSaid : Prop := witnessDecidesRow.holds Try.pinned (OpenSpec.ofChange witnessDecidesSpec)

/-- ITS FALSE NEIGHBOUR: 'it returns false'. Refute it at one input. -/
def witnessDecidesWrong : ChangeSpec := { name := "witnessDecides", fn := fun _ => fun
  | [d1, d2] => { results := [.lit (.bool false)], args := [d1, d2] }
  | _ => none }
def WitnessDecidesWrongFalsely : Prop := witnessDecidesRow.holds Try.pinned (OpenSpec.ofChange witnessDecidesWrong)

/- THE SECOND FORM. 'bulk': how many values and letters a reading holds, each counted each time it is reached (what is shared counts as often as it is met; a slice's spare places count too). A statement '..UptoSaid' is the law's where the arguments, and the package variables that the reading takes, are together of bulk at most 1048576: NARROWER than '..Said'. Prove '..Said' where nothing that the law and all that it calls make is longer than what came in: it says more and counts as full. Else prove '..UptoSaid'. A law counts once. -/
mutual
def uptoBulk {H : Type} : DataW H → Nat
  | .lit (.string bytes) => bytes.length + 1
  | .lit _ => 1
  | .nil => 1
  | .ptr d => uptoBulk d + 1
  | .slice elems spare => uptoBulkAll elems + uptoBulkAll spare + 1
  | .agg parts => uptoBulkAll parts + 1
  | .iface _ d => uptoBulk d + 1
  | .map entries => uptoBulkEntries entries + 1
  | .held _ => 1
def uptoBulkAll {H : Type} : List (DataW H) → Nat
  | [] => 0
  | d :: r => uptoBulk d + uptoBulkAll r
def uptoBulkEntries {H : Type} : List (Lit × DataW H) → Nat
  | [] => 0
  | x :: r => uptoBulkEntry x + uptoBulkEntries r
def uptoBulkEntry {H : Type} : Lit × DataW H → Nat
  | (.string bytes, d) => bytes.length + uptoBulk d + 1
  | (_, d) => uptoBulk d + 1
 end
def uptoSmall : (H : Type) → List (DataW H) → Bool := fun _ ds => decide (uptoBulkAll ds ≤ 1048576)
def OpenSpec.upto (s : _root_.Go.ChangeSpec) : _root_.Go.OpenSpec := { _root_.Go.OpenSpec.ofChange s with cond := some uptoSmall }

/-- 'assizelaw29.WitnessCompletionSpec', WHERE WHAT IT READS IS OF BULK AT MOST 1048576: true; the input reads as it did. -/
def witnessCompletionSpecUptoRow : OpenClaim := { program := "ythlnfjbedehjdaa", sum := "08e51ad4f56cbc71e8fbc829eb5f801d165009b71e3faf02eb0e7f1e88dfba80", func := "assize/assizelaw29.WitnessCompletionSpec", spec := "witnessCompletionSpec", unfollowed := true, recurses := true, plainKeys := false, apart := false, narrowed := true }
def WitnessCompletionSpecUptoSaid : Prop := witnessCompletionSpecUptoRow.holds Try.pinned (OpenSpec.upto witnessCompletionSpecSpec)

/-- 'assizelaw29.WitnessCutSpec', WHERE WHAT IT READS IS OF BULK AT MOST 1048576: true; the input reads as it did. -/
def witnessCutSpecUptoRow : OpenClaim := { program := "ythlnfjbedehjdaa", sum := "08e51ad4f56cbc71e8fbc829eb5f801d165009b71e3faf02eb0e7f1e88dfba80", func := "assize/assizelaw29.WitnessCutSpec", spec := "witnessCutSpec", unfollowed := true, recurses := true, plainKeys := false, apart := false, narrowed := true }
def WitnessCutSpecUptoSaid : Prop := witnessCutSpecUptoRow.holds Try.pinned (OpenSpec.upto witnessCutSpecSpec)

/-- 'assizelaw29.WitnessCheckSpec', WHERE WHAT IT READS IS OF BULK AT MOST 1048576: true; the input reads as it did. -/
def witnessCheckSpecUptoRow : OpenClaim := { program := "ythlnfjbedehjdaa", sum := "08e51ad4f56cbc71e8fbc829eb5f801d165009b71e3faf02eb0e7f1e88dfba80", func := "assize/assizelaw29.WitnessCheckSpec", spec := "witnessCheckSpec", unfollowed := true, recurses := true, plainKeys := false, apart := false, narrowed := true }
def WitnessCheckSpecUptoSaid : Prop := witnessCheckSpecUptoRow.holds Try.pinned (OpenSpec.upto witnessCheckSpecSpec)

/-- 'assizelaw29.WitnessSound', WHERE WHAT IT READS IS OF BULK AT MOST 1048576: true; the input reads as it did. -/
def witnessSoundUptoRow : OpenClaim := { program := "ythlnfjbedehjdaa", sum := "08e51ad4f56cbc71e8fbc829eb5f801d165009b71e3faf02eb0e7f1e88dfba80", func := "assize/assizelaw29.WitnessSound", spec := "witnessSound", unfollowed := true, recurses := true, plainKeys := false, apart := false, narrowed := true }
def WitnessSoundUptoSaid : Prop := witnessSoundUptoRow.holds Try.pinned (OpenSpec.upto witnessSoundSpec)

/-- 'assizelaw29.WitnessOne', WHERE WHAT IT READS IS OF BULK AT MOST 1048576: true; the input reads as it did. -/
def witnessOneUptoRow : OpenClaim := { program := "ythlnfjbedehjdaa", sum := "08e51ad4f56cbc71e8fbc829eb5f801d165009b71e3faf02eb0e7f1e88dfba80", func := "assize/assizelaw29.WitnessOne", spec := "witnessOne", unfollowed := true, recurses := true, plainKeys := false, apart := false, narrowed := true }
def WitnessOneUptoSaid : Prop := witnessOneUptoRow.holds Try.pinned (OpenSpec.upto witnessOneSpec)

/-- 'assizelaw29.WitnessCuts', WHERE WHAT IT READS IS OF BULK AT MOST 1048576: true; the input reads as it did. -/
def witnessCutsUptoRow : OpenClaim := { program := "ythlnfjbedehjdaa", sum := "08e51ad4f56cbc71e8fbc829eb5f801d165009b71e3faf02eb0e7f1e88dfba80", func := "assize/assizelaw29.WitnessCuts", spec := "witnessCuts", unfollowed := true, recurses := true, plainKeys := false, apart := false, narrowed := true }
def WitnessCutsUptoSaid : Prop := witnessCutsUptoRow.holds Try.pinned (OpenSpec.upto witnessCutsSpec)

/-- 'assizelaw29.WitnessDecides', WHERE WHAT IT READS IS OF BULK AT MOST 1048576: true; the input reads as it did. -/
def witnessDecidesUptoRow : OpenClaim := { program := "ythlnfjbedehjdaa", sum := "08e51ad4f56cbc71e8fbc829eb5f801d165009b71e3faf02eb0e7f1e88dfba80", func := "assize/assizelaw29.WitnessDecides", spec := "witnessDecides", unfollowed := true, recurses := true, plainKeys := false, apart := false, narrowed := true }
def WitnessDecidesUptoSaid : Prop := witnessDecidesUptoRow.holds Try.pinned (OpenSpec.upto witnessDecidesSpec)

end Rows
end Go.Proofs.Ythlnfjbedehjdaa
