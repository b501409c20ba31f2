/-
  No cell of these rows narrows 'for every input' (looked for: loops, veiled, ifaces, maps, wideKeys, modest, calm, conditions, laid).
  DERIVED. THE GIVEN ROWS OF THIS SEAT. 8 by the template 'for every input the law returns true; each argument reads behind the call as it read before'; 0 by the template 'total and deterministic' (their statements: YtpcodholllaceaaTotals.lean).
  GIVEN WITH THE SEED: the statements are not yours to turn. If you find one false, say at which input.
  Laid BY PROGRAM, IN A SANDBOX (cutbox-rows.mjs): the forced cells as the released guide's own fill.sh prints them over the translation cc43e1a0beaa4cd2… (all of the seat's roots in one cut). By AI agents, Wed Nov 11 2026. No macro, syntax, notation, axiom, sorry.
-/
import Derived.Test.YtpcodholllaceaaChecked
import GoSem.Claim
import GoSem.ClaimJoined
import GoSem.ClaimMapViews
import Derived.JoinedTies
import Derived.KernelRfl
namespace Go.Proofs.Ytpcodholllaceaa
/- THE CELL 'sum', in the pinned program and in every row, IS THE sha256 OF THE DUMP (.gsa) THAT YtpcodholllaceaaProg.lean LOADS. Nothing in Lean hashes anything: it is a label: what it is worth is what the hold of that sum in a sandbox is worth. -/
noncomputable def Try.pinned : Pinned := { name := "ytpcodholllaceaa", sum := "cc43e1a0beaa4cd207bf439b275999bfd543c34999de155ea56be48da27d508b", checked := Try.checked }
namespace Rows
def none {H : Type} : Left H := { results := [], args := [] }

/-- 'assizelaw23.SharesPowSpec': WHATEVER THE INPUT: true; the input reads as it did. -/
def sharesPowSpecSpec : ChangeSpec := { name := "sharesPowSpec", fn := fun _ => fun
  | [d1, d2, d3, d4] => { results := [.lit (.bool true)], args := [d1, d2, d3, d4] }
  | _ => none }
def sharesPowSpecRow : OpenClaim := { program := "ytpcodholllaceaa", sum := "cc43e1a0beaa4cd207bf439b275999bfd543c34999de155ea56be48da27d508b", func := "assize/assizelaw23.SharesPowSpec", spec := "sharesPowSpec", unfollowed := true, recurses := true, named := ["math/bits.divideError", "math/bits.overflowError"], apart := false }
def SharesPowSpecSaid : Prop := sharesPowSpecRow.holds Try.pinned (OpenSpec.ofChange sharesPowSpecSpec)

/-- ITS FALSE NEIGHBOUR: 'it returns false'. Refute it at one input. -/
def sharesPowSpecWrong : ChangeSpec := { name := "sharesPowSpec", fn := fun _ => fun
  | [d1, d2, d3, d4] => { results := [.lit (.bool false)], args := [d1, d2, d3, d4] }
  | _ => none }
def SharesPowSpecWrongFalsely : Prop := sharesPowSpecRow.holds Try.pinned (OpenSpec.ofChange sharesPowSpecWrong)

/-- 'assizelaw23.SharesVerifySpec': WHATEVER THE INPUT: true; the input reads as it did. -/
def sharesVerifySpecSpec : ChangeSpec := { name := "sharesVerifySpec", fn := fun _ => fun
  | [d1, d2] => { results := [.lit (.bool true)], args := [d1, d2] }
  | _ => none }
def sharesVerifySpecRow : OpenClaim := { program := "ytpcodholllaceaa", sum := "cc43e1a0beaa4cd207bf439b275999bfd543c34999de155ea56be48da27d508b", func := "assize/assizelaw23.SharesVerifySpec", spec := "sharesVerifySpec", unfollowed := true, recurses := true, named := ["math/bits.divideError", "math/bits.overflowError"], apart := false }
def SharesVerifySpecSaid : Prop := sharesVerifySpecRow.holds Try.pinned (OpenSpec.ofChange sharesVerifySpecSpec)

/-- ITS FALSE NEIGHBOUR: 'it returns false'. Refute it at one input. -/
def sharesVerifySpecWrong : ChangeSpec := { name := "sharesVerifySpec", fn := fun _ => fun
  | [d1, d2] => { results := [.lit (.bool false)], args := [d1, d2] }
  | _ => none }
def SharesVerifySpecWrongFalsely : Prop := sharesVerifySpecRow.holds Try.pinned (OpenSpec.ofChange sharesVerifySpecWrong)

/-- 'assizelaw23.SharesJoinSpec': WHATEVER THE INPUT: true; the input reads as it did. -/
def sharesJoinSpecSpec : ChangeSpec := { name := "sharesJoinSpec", fn := fun _ => fun
  | [d1, d2] => { results := [.lit (.bool true)], args := [d1, d2] }
  | _ => none }
def sharesJoinSpecRow : OpenClaim := { program := "ytpcodholllaceaa", sum := "cc43e1a0beaa4cd207bf439b275999bfd543c34999de155ea56be48da27d508b", func := "assize/assizelaw23.SharesJoinSpec", spec := "sharesJoinSpec", unfollowed := true, recurses := true, named := ["math/bits.divideError", "math/bits.overflowError"], apart := false }
def SharesJoinSpecSaid : Prop := sharesJoinSpecRow.holds Try.pinned (OpenSpec.ofChange sharesJoinSpecSpec)

/-- ITS FALSE NEIGHBOUR: 'it returns false'. Refute it at one input. -/
def sharesJoinSpecWrong : ChangeSpec := { name := "sharesJoinSpec", fn := fun _ => fun
  | [d1, d2] => { results := [.lit (.bool false)], args := [d1, d2] }
  | _ => none }
def SharesJoinSpecWrongFalsely : Prop := sharesJoinSpecRow.holds Try.pinned (OpenSpec.ofChange sharesJoinSpecWrong)

/-- 'assizelaw23.SharesJoin': WHATEVER THE INPUT: true; the input reads as it did. -/
def sharesJoinSpec : ChangeSpec := { name := "sharesJoin", fn := fun _ => fun
  | [d1, d2, d3] => { results := [.lit (.bool true)], args := [d1, d2, d3] }
  | _ => none }
def sharesJoinRow : OpenClaim := { program := "ytpcodholllaceaa", sum := "cc43e1a0beaa4cd207bf439b275999bfd543c34999de155ea56be48da27d508b", func := "assize/assizelaw23.SharesJoin", spec := "sharesJoin", unfollowed := true, recurses := true, named := ["math/bits.divideError", "math/bits.overflowError"], apart := false }
def SharesJoinSaid : Prop := sharesJoinRow.holds Try.pinned (OpenSpec.ofChange sharesJoinSpec)

/-- ITS FALSE NEIGHBOUR: 'it returns false'. Refute it at one input. -/
def sharesJoinWrong : ChangeSpec := { name := "sharesJoin", fn := fun _ => fun
  | [d1, d2, d3] => { results := [.lit (.bool false)], args := [d1, d2, d3] }
  | _ => none }
def SharesJoinWrongFalsely : Prop := sharesJoinRow.holds Try.pinned (OpenSpec.ofChange sharesJoinWrong)

/-- 'assizelaw23.SharesVerifies': WHATEVER THE INPUT: true; the input reads as it did. -/
def sharesVerifiesSpec : ChangeSpec := { name := "sharesVerifies", fn := fun _ => fun
  | [d1, d2, d3] => { results := [.lit (.bool true)], args := [d1, d2, d3] }
  | _ => none }
def sharesVerifiesRow : OpenClaim := { program := "ytpcodholllaceaa", sum := "cc43e1a0beaa4cd207bf439b275999bfd543c34999de155ea56be48da27d508b", func := "assize/assizelaw23.SharesVerifies", spec := "sharesVerifies", unfollowed := true, recurses := true, named := ["math/bits.divideError", "math/bits.overflowError"], apart := false }
def SharesVerifiesSaid : Prop := sharesVerifiesRow.holds Try.pinned (OpenSpec.ofChange sharesVerifiesSpec)

/-- ITS FALSE NEIGHBOUR: 'it returns false'. Refute it at one input. -/
def sharesVerifiesWrong : ChangeSpec := { name := "sharesVerifies", fn := fun _ => fun
  | [d1, d2, d3] => { results := [.lit (.bool false)], args := [d1, d2, d3] }
  | _ => none }
def SharesVerifiesWrongFalsely : Prop := sharesVerifiesRow.holds Try.pinned (OpenSpec.ofChange sharesVerifiesWrong)

/-- 'assizelaw23.SharesAdd': WHATEVER THE INPUT: true; the input reads as it did. -/
def sharesAddSpec : ChangeSpec := { name := "sharesAdd", fn := fun _ => fun
  | [d1, d2, d3] => { results := [.lit (.bool true)], args := [d1, d2, d3] }
  | _ => none }
def sharesAddRow : OpenClaim := { program := "ytpcodholllaceaa", sum := "cc43e1a0beaa4cd207bf439b275999bfd543c34999de155ea56be48da27d508b", func := "assize/assizelaw23.SharesAdd", spec := "sharesAdd", unfollowed := true, recurses := true, named := ["math/bits.divideError", "math/bits.overflowError"], apart := false }
def SharesAddSaid : Prop := sharesAddRow.holds Try.pinned (OpenSpec.ofChange sharesAddSpec)

/-- ITS FALSE NEIGHBOUR: 'it returns false'. Refute it at one input. -/
def sharesAddWrong : ChangeSpec := { name := "sharesAdd", fn := fun _ => fun
  | [d1, d2, d3] => { results := [.lit (.bool false)], args := [d1, d2, d3] }
  | _ => none }
def SharesAddWrongFalsely : Prop := sharesAddRow.holds Try.pinned (OpenSpec.ofChange sharesAddWrong)

/-- 'assizelaw23.SharesHidden': WHATEVER THE INPUT: true; the input reads as it did. -/
def sharesHiddenSpec : ChangeSpec := { name := "sharesHidden", fn := fun _ => fun
  | [d1, d2] => { results := [.lit (.bool true)], args := [d1, d2] }
  | _ => none }
def sharesHiddenRow : OpenClaim := { program := "ytpcodholllaceaa", sum := "cc43e1a0beaa4cd207bf439b275999bfd543c34999de155ea56be48da27d508b", func := "assize/assizelaw23.SharesHidden", spec := "sharesHidden", unfollowed := true, recurses := true, named := ["math/bits.divideError", "math/bits.overflowError"], apart := false }
def SharesHiddenSaid : Prop := sharesHiddenRow.holds Try.pinned (OpenSpec.ofChange sharesHiddenSpec)

/-- ITS FALSE NEIGHBOUR: 'it returns false'. Refute it at one input. -/
def sharesHiddenWrong : ChangeSpec := { name := "sharesHidden", fn := fun _ => fun
  | [d1, d2] => { results := [.lit (.bool false)], args := [d1, d2] }
  | _ => none }
def SharesHiddenWrongFalsely : Prop := sharesHiddenRow.holds Try.pinned (OpenSpec.ofChange sharesHiddenWrong)

/-- 'assizelaw23.SharesExponents': WHATEVER THE INPUT: true; the input reads as it did. -/
def sharesExponentsSpec : ChangeSpec := { name := "sharesExponents", fn := fun _ => fun
  | [d1, d2, d3] => { results := [.lit (.bool true)], args := [d1, d2, d3] }
  | _ => none }
def sharesExponentsRow : OpenClaim := { program := "ytpcodholllaceaa", sum := "cc43e1a0beaa4cd207bf439b275999bfd543c34999de155ea56be48da27d508b", func := "assize/assizelaw23.SharesExponents", spec := "sharesExponents", unfollowed := true, recurses := true, named := ["math/bits.divideError", "math/bits.overflowError"], apart := false }
def SharesExponentsSaid : Prop := sharesExponentsRow.holds Try.pinned (OpenSpec.ofChange sharesExponentsSpec)

/-- ITS FALSE NEIGHBOUR: 'it returns false'. Refute it at one input. -/
def sharesExponentsWrong : ChangeSpec := { name := "sharesExponents", fn := fun _ => fun
  | [d1, d2, d3] => { results := [.lit (.bool false)], args := [d1, d2, d3] }
  | _ => none }
def SharesExponentsWrongFalsely : Prop := sharesExponentsRow.holds Try.pinned (OpenSpec.ofChange sharesExponentsWrong)

/- THE SECOND FORM. 'bulk': how many values and letters a reading holds, each counted each time it is reached (what is shared counts as often as it is met; a slice's spare places count too). A statement '..UptoSaid' is the law's where the arguments, and the package variables that the reading takes, are together of bulk at most 1048576: NARROWER than '..Said'. Prove '..Said' where nothing that the law and all that it calls make is longer than what came in: it says more and counts as full. Else prove '..UptoSaid'. A law counts once. -/
mutual
def uptoBulk {H : Type} : DataW H → Nat
  | .lit (.string bytes) => bytes.length + 1
  | .lit _ => 1
  | .nil => 1
  | .ptr d => uptoBulk d + 1
  | .slice elems spare => uptoBulkAll elems + uptoBulkAll spare + 1
  | .agg parts => uptoBulkAll parts + 1
  | .iface _ d => uptoBulk d + 1
  | .map entries => uptoBulkEntries entries + 1
  | .held _ => 1
def uptoBulkAll {H : Type} : List (DataW H) → Nat
  | [] => 0
  | d :: r => uptoBulk d + uptoBulkAll r
def uptoBulkEntries {H : Type} : List (Lit × DataW H) → Nat
  | [] => 0
  | x :: r => uptoBulkEntry x + uptoBulkEntries r
def uptoBulkEntry {H : Type} : Lit × DataW H → Nat
  | (.string bytes, d) => bytes.length + uptoBulk d + 1
  | (_, d) => uptoBulk d + 1
 end
def uptoSmall : (H : Type) → List (DataW H) → Bool := fun _ ds => decide (uptoBulkAll ds ≤ 1048576)
def OpenSpec.upto (s : _root_.Go.ChangeSpec) : _root_.Go.OpenSpec := { _root_.Go.OpenSpec.ofChange s with cond := some uptoSmall }

/-- 'assizelaw23.SharesPowSpec', WHERE WHAT IT READS IS OF BULK AT MOST 1048576: true; the input reads as it did. -/
def sharesPowSpecUptoRow : OpenClaim := { program := "ytpcodholllaceaa", sum := "cc43e1a0beaa4cd207bf439b275999bfd543c34999de155ea56be48da27d508b", func := "assize/assizelaw23.SharesPowSpec", spec := "sharesPowSpec", unfollowed := true, recurses := true, named := ["math/bits.divideError", "math/bits.overflowError"], apart := false, narrowed := true }
def SharesPowSpecUptoSaid : Prop := sharesPowSpecUptoRow.holds Try.pinned (OpenSpec.upto sharesPowSpecSpec)

/-- 'assizelaw23.SharesVerifySpec', WHERE WHAT IT READS IS OF BULK AT MOST 1048576: true; the input reads as it did. -/
def sharesVerifySpecUptoRow : OpenClaim := { program := "ytpcodholllaceaa", sum := "cc43e1a0beaa4cd207bf439b275999bfd543c34999de155ea56be48da27d508b", func := "assize/assizelaw23.SharesVerifySpec", spec := "sharesVerifySpec", unfollowed := true, recurses := true, named := ["math/bits.divideError", "math/bits.overflowError"], apart := false, narrowed := true }
def SharesVerifySpecUptoSaid : Prop := sharesVerifySpecUptoRow.holds Try.pinned (OpenSpec.upto sharesVerifySpecSpec)

/-- 'assizelaw23.SharesJoinSpec', WHERE WHAT IT READS IS OF BULK AT MOST 1048576: true; the input reads as it did. -/
def sharesJoinSpecUptoRow : OpenClaim := { program := "ytpcodholllaceaa", sum := "cc43e1a0beaa4cd207bf439b275999bfd543c34999de155ea56be48da27d508b", func := "assize/assizelaw23.SharesJoinSpec", spec := "sharesJoinSpec", unfollowed := true, recurses := true, named := ["math/bits.divideError", "math/bits.overflowError"], apart := false, narrowed := true }
def SharesJoinSpecUptoSaid : Prop := sharesJoinSpecUptoRow.holds Try.pinned (OpenSpec.upto sharesJoinSpecSpec)

/-- 'assizelaw23.SharesJoin', WHERE WHAT IT READS IS OF BULK AT MOST 1048576: true; the input reads as it did. -/
def sharesJoinUptoRow : OpenClaim := { program := "ytpcodholllaceaa", sum := "cc43e1a0beaa4cd207bf439b275999bfd543c34999de155ea56be48da27d508b", func := "assize/assizelaw23.SharesJoin", spec := "sharesJoin", unfollowed := true, recurses := true, named := ["math/bits.divideError", "math/bits.overflowError"], apart := false, narrowed := true }
def SharesJoinUptoSaid : Prop := sharesJoinUptoRow.holds Try.pinned (OpenSpec.upto sharesJoinSpec)

/-- 'assizelaw23.SharesVerifies', WHERE WHAT IT READS IS OF BULK AT MOST 1048576: true; the input reads as it did. -/
def sharesVerifiesUptoRow : OpenClaim := { program := "ytpcodholllaceaa", sum := "cc43e1a0beaa4cd207bf439b275999bfd543c34999de155ea56be48da27d508b", func := "assize/assizelaw23.SharesVerifies", spec := "sharesVerifies", unfollowed := true, recurses := true, named := ["math/bits.divideError", "math/bits.overflowError"], apart := false, narrowed := true }
def SharesVerifiesUptoSaid : Prop := sharesVerifiesUptoRow.holds Try.pinned (OpenSpec.upto sharesVerifiesSpec)

/-- 'assizelaw23.SharesAdd', WHERE WHAT IT READS IS OF BULK AT MOST 1048576: true; the input reads as it did. -/
def sharesAddUptoRow : OpenClaim := { program := "ytpcodholllaceaa", sum := "cc43e1a0beaa4cd207bf439b275999bfd543c34999de155ea56be48da27d508b", func := "assize/assizelaw23.SharesAdd", spec := "sharesAdd", unfollowed := true, recurses := true, named := ["math/bits.divideError", "math/bits.overflowError"], apart := false, narrowed := true }
def SharesAddUptoSaid : Prop := sharesAddUptoRow.holds Try.pinned (OpenSpec.upto sharesAddSpec)

/-- 'assizelaw23.SharesHidden', WHERE WHAT IT READS IS OF BULK AT MOST 1048576: true; the input reads as it did. -/
def sharesHiddenUptoRow : OpenClaim := { program := "ytpcodholllaceaa", sum := "cc43e1a0beaa4cd207bf439b275999bfd543c34999de155ea56be48da27d508b", func := "assize/assizelaw23.SharesHidden", spec := "sharesHidden", unfollowed := true, recurses := true, named := ["math/bits.divideError", "math/bits.overflowError"], apart := false, narrowed := true }
def SharesHiddenUptoSaid : Prop := sharesHiddenUptoRow.holds Try.pinned (OpenSpec.upto sharesHiddenSpec)

/-- 'assizelaw23.SharesExponents', WHERE WHAT IT READS IS OF BULK AT MOST 1048576: true; the input reads as it did. -/
def sharesExponentsUptoRow : OpenClaim := { program := "ytpcodholllaceaa", sum := "cc43e1a0beaa4cd207bf439b275999bfd543c34999de155ea56be48da27d508b", func := "assize/assizelaw23.SharesExponents", spec := "sharesExponents", unfollowed := true, recurses := true, named := ["math/bits.divideError", "math/bits.overflowError"], apart := false, narrowed := true }
def SharesExponentsUptoSaid : Prop := sharesExponentsUptoRow.holds Try.pinned (OpenSpec.upto sharesExponentsSpec)

end Rows
end Go.Proofs.Ytpcodholllaceaa
