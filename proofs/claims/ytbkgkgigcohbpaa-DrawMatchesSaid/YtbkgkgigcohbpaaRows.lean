/-
  No cell of these rows narrows 'for every input' (looked for: loops, veiled, ifaces, maps, wideKeys, modest, calm, conditions, laid).
  DERIVED. THE GIVEN ROWS OF THIS SEAT. 6 by the template 'for every input the law returns true; each argument reads behind the call as it read before'; 0 by the template 'total and deterministic' (their statements: YtbkgkgigcohbpaaTotals.lean).
  GIVEN WITH THE SEED: the statements are not yours to turn. If you find one false, say at which input.
  Laid BY PROGRAM, IN A SANDBOX (cutbox-rows.mjs): the forced cells as the released guide's own fill.sh prints them over the translation 2f3cbf2df4ed3722… (all of the seat's roots in one cut). By AI agents, Wed Nov 11 2026. No macro, syntax, notation, axiom, sorry.
-/
import Derived.Test.YtbkgkgigcohbpaaChecked
import GoSem.Claim
import GoSem.ClaimJoined
import GoSem.ClaimMapViews
import Derived.JoinedTies
import Derived.KernelRfl
namespace Go.Proofs.Ytbkgkgigcohbpaa
/- THE CELL 'sum', in the pinned program and in every row, IS THE sha256 OF THE DUMP (.gsa) THAT YtbkgkgigcohbpaaProg.lean LOADS. Nothing in Lean hashes anything: it is a label: what it is worth is what the hold of that sum in a sandbox is worth. -/
noncomputable def Try.pinned : Pinned := { name := "ytbkgkgigcohbpaa", sum := "2f3cbf2df4ed37224648d58c2596ff1c3e2fd743b3343570c40fc5b2e2641fea", checked := Try.checked }
namespace Rows
def none {H : Type} : Left H := { results := [], args := [] }

/-- 'assizelaw26.DrawCountSpec': WHATEVER THE INPUT: true; the input reads as it did. -/
def drawCountSpecSpec : ChangeSpec := { name := "drawCountSpec", fn := fun _ => fun
  | [d] => { results := [.lit (.bool true)], args := [d] }
  | _ => none }
def drawCountSpecRow : OpenClaim := { program := "ytbkgkgigcohbpaa", sum := "2f3cbf2df4ed37224648d58c2596ff1c3e2fd743b3343570c40fc5b2e2641fea", func := "assize/assizelaw26.DrawCountSpec", spec := "drawCountSpec", unfollowed := true, recurses := true, plainKeys := false, apart := false }
def DrawCountSpecSaid : Prop := drawCountSpecRow.holds Try.pinned (OpenSpec.ofChange drawCountSpecSpec)

/-- ITS FALSE NEIGHBOUR: 'it returns false'. Refute it at one input. -/
def drawCountSpecWrong : ChangeSpec := { name := "drawCountSpec", fn := fun _ => fun
  | [d] => { results := [.lit (.bool false)], args := [d] }
  | _ => none }
def DrawCountSpecWrongFalsely : Prop := drawCountSpecRow.holds Try.pinned (OpenSpec.ofChange drawCountSpecWrong)

/-- 'assizelaw26.DrawOutcomeSpec': WHATEVER THE INPUT: true; the input reads as it did. -/
def drawOutcomeSpecSpec : ChangeSpec := { name := "drawOutcomeSpec", fn := fun _ => fun
  | [d1, d2, d3] => { results := [.lit (.bool true)], args := [d1, d2, d3] }
  | _ => none }
def drawOutcomeSpecRow : OpenClaim := { program := "ytbkgkgigcohbpaa", sum := "2f3cbf2df4ed37224648d58c2596ff1c3e2fd743b3343570c40fc5b2e2641fea", func := "assize/assizelaw26.DrawOutcomeSpec", spec := "drawOutcomeSpec", unfollowed := true, recurses := true, plainKeys := false, apart := false }
def DrawOutcomeSpecSaid : Prop := drawOutcomeSpecRow.holds Try.pinned (OpenSpec.ofChange drawOutcomeSpecSpec)

/-- ITS FALSE NEIGHBOUR: 'it returns false'. Refute it at one input. -/
def drawOutcomeSpecWrong : ChangeSpec := { name := "drawOutcomeSpec", fn := fun _ => fun
  | [d1, d2, d3] => { results := [.lit (.bool false)], args := [d1, d2, d3] }
  | _ => none }
def DrawOutcomeSpecWrongFalsely : Prop := drawOutcomeSpecRow.holds Try.pinned (OpenSpec.ofChange drawOutcomeSpecWrong)

/-- 'assizelaw26.DrawBijection': WHATEVER THE INPUT: true; the input reads as it did. -/
def drawBijectionSpec : ChangeSpec := { name := "drawBijection", fn := fun _ => fun
  | [d1, d2, d3] => { results := [.lit (.bool true)], args := [d1, d2, d3] }
  | _ => none }
def drawBijectionRow : OpenClaim := { program := "ytbkgkgigcohbpaa", sum := "2f3cbf2df4ed37224648d58c2596ff1c3e2fd743b3343570c40fc5b2e2641fea", func := "assize/assizelaw26.DrawBijection", spec := "drawBijection", unfollowed := true, recurses := true, plainKeys := false, apart := false }
def DrawBijectionSaid : Prop := drawBijectionRow.holds Try.pinned (OpenSpec.ofChange drawBijectionSpec)

/-- ITS FALSE NEIGHBOUR: 'it returns false'. Refute it at one input. -/
def drawBijectionWrong : ChangeSpec := { name := "drawBijection", fn := fun _ => fun
  | [d1, d2, d3] => { results := [.lit (.bool false)], args := [d1, d2, d3] }
  | _ => none }
def DrawBijectionWrongFalsely : Prop := drawBijectionRow.holds Try.pinned (OpenSpec.ofChange drawBijectionWrong)

/-- 'assizelaw26.DrawSums': WHATEVER THE INPUT: true; the input reads as it did. -/
def drawSumsSpec : ChangeSpec := { name := "drawSums", fn := fun _ => fun
  | [d] => { results := [.lit (.bool true)], args := [d] }
  | _ => none }
def drawSumsRow : OpenClaim := { program := "ytbkgkgigcohbpaa", sum := "2f3cbf2df4ed37224648d58c2596ff1c3e2fd743b3343570c40fc5b2e2641fea", func := "assize/assizelaw26.DrawSums", spec := "drawSums", unfollowed := true, recurses := true, plainKeys := false, apart := false }
def DrawSumsSaid : Prop := drawSumsRow.holds Try.pinned (OpenSpec.ofChange drawSumsSpec)

/-- ITS FALSE NEIGHBOUR: 'it returns false'. Refute it at one input. -/
def drawSumsWrong : ChangeSpec := { name := "drawSums", fn := fun _ => fun
  | [d] => { results := [.lit (.bool false)], args := [d] }
  | _ => none }
def DrawSumsWrongFalsely : Prop := drawSumsRow.holds Try.pinned (OpenSpec.ofChange drawSumsWrong)

/-- 'assizelaw26.DrawForbids': WHATEVER THE INPUT: true; the input reads as it did. -/
def drawForbidsSpec : ChangeSpec := { name := "drawForbids", fn := fun _ => fun
  | [d1, d2, d3] => { results := [.lit (.bool true)], args := [d1, d2, d3] }
  | _ => none }
def drawForbidsRow : OpenClaim := { program := "ytbkgkgigcohbpaa", sum := "2f3cbf2df4ed37224648d58c2596ff1c3e2fd743b3343570c40fc5b2e2641fea", func := "assize/assizelaw26.DrawForbids", spec := "drawForbids", unfollowed := true, recurses := true, plainKeys := false, apart := false }
def DrawForbidsSaid : Prop := drawForbidsRow.holds Try.pinned (OpenSpec.ofChange drawForbidsSpec)

/-- ITS FALSE NEIGHBOUR: 'it returns false'. Refute it at one input. -/
def drawForbidsWrong : ChangeSpec := { name := "drawForbids", fn := fun _ => fun
  | [d1, d2, d3] => { results := [.lit (.bool false)], args := [d1, d2, d3] }
  | _ => none }
def DrawForbidsWrongFalsely : Prop := drawForbidsRow.holds Try.pinned (OpenSpec.ofChange drawForbidsWrong)

/-- 'assizelaw26.DrawMatches': WHATEVER THE INPUT: true; the input reads as it did. -/
def drawMatchesSpec : ChangeSpec := { name := "drawMatches", fn := fun _ => fun
  | [d] => { results := [.lit (.bool true)], args := [d] }
  | _ => none }
def drawMatchesRow : OpenClaim := { program := "ytbkgkgigcohbpaa", sum := "2f3cbf2df4ed37224648d58c2596ff1c3e2fd743b3343570c40fc5b2e2641fea", func := "assize/assizelaw26.DrawMatches", spec := "drawMatches", unfollowed := true, recurses := true, plainKeys := false, apart := false }
def DrawMatchesSaid : Prop := drawMatchesRow.holds Try.pinned (OpenSpec.ofChange drawMatchesSpec)

/-- ITS FALSE NEIGHBOUR: 'it returns false'. Refute it at one input. -/
def drawMatchesWrong : ChangeSpec := { name := "drawMatches", fn := fun _ => fun
  | [d] => { results := [.lit (.bool false)], args := [d] }
  | _ => none }
def DrawMatchesWrongFalsely : Prop := drawMatchesRow.holds Try.pinned (OpenSpec.ofChange drawMatchesWrong)

/- THE SECOND FORM. 'bulk': how many values and letters a reading holds, each counted each time it is reached (what is shared counts as often as it is met; a slice's spare places count too). A statement '..UptoSaid' is the law's where the arguments, and the package variables that the reading takes, are together of bulk at most 1048576: NARROWER than '..Said'. Prove '..Said' where nothing that the law and all that it calls make is longer than what came in: it says more and counts as full. Else prove '..UptoSaid'. A law counts once. -/
mutual
def uptoBulk {H : Type} : DataW H → Nat
  | .lit (.string bytes) => bytes.length + 1
  | .lit _ => 1
  | .nil => 1
  | .ptr d => uptoBulk d + 1
  | .slice elems spare => uptoBulkAll elems + uptoBulkAll spare + 1
  | .agg parts => uptoBulkAll parts + 1
  | .iface _ d => uptoBulk d + 1
  | .map entries => uptoBulkEntries entries + 1
  | .held _ => 1
def uptoBulkAll {H : Type} : List (DataW H) → Nat
  | [] => 0
  | d :: r => uptoBulk d + uptoBulkAll r
def uptoBulkEntries {H : Type} : List (Lit × DataW H) → Nat
  | [] => 0
  | x :: r => uptoBulkEntry x + uptoBulkEntries r
def uptoBulkEntry {H : Type} : Lit × DataW H → Nat
  | (.string bytes, d) => bytes.length + uptoBulk d + 1
  | (_, d) => uptoBulk d + 1
 end
def uptoSmall : (H : Type) → List (DataW H) → Bool := fun _ ds => decide (uptoBulkAll ds ≤ 1048576)
def OpenSpec.upto (s : _root_.Go.ChangeSpec) : _root_.Go.OpenSpec := { _root_.Go.OpenSpec.ofChange s with cond := some uptoSmall }

/-- 'assizelaw26.DrawCountSpec', WHERE WHAT IT READS IS OF BULK AT MOST 1048576: true; the input reads as it did. -/
def drawCountSpecUptoRow : OpenClaim := { program := "ytbkgkgigcohbpaa", sum := "2f3cbf2df4ed37224648d58c2596ff1c3e2fd743b3343570c40fc5b2e2641fea", func := "assize/assizelaw26.DrawCountSpec", spec := "drawCountSpec", unfollowed := true, recurses := true, plainKeys := false, apart := false, narrowed := true }
def DrawCountSpecUptoSaid : Prop := drawCountSpecUptoRow.holds Try.pinned (OpenSpec.upto drawCountSpecSpec)

/-- 'assizelaw26.DrawOutcomeSpec', WHERE WHAT IT READS IS OF BULK AT MOST 1048576: true; the input reads as it did. -/
def drawOutcomeSpecUptoRow : OpenClaim := { program := "ytbkgkgigcohbpaa", sum := "2f3cbf2df4ed37224648d58c2596ff1c3e2fd743b3343570c40fc5b2e2641fea", func := "assize/assizelaw26.DrawOutcomeSpec", spec := "drawOutcomeSpec", unfollowed := true, recurses := true, plainKeys := false, apart := false, narrowed := true }
def DrawOutcomeSpecUptoSaid : Prop := drawOutcomeSpecUptoRow.holds Try.pinned (OpenSpec.upto drawOutcomeSpecSpec)

/-- 'assizelaw26.DrawBijection', WHERE WHAT IT READS IS OF BULK AT MOST 1048576: true; the input reads as it did. -/
def drawBijectionUptoRow : OpenClaim := { program := "ytbkgkgigcohbpaa", sum := "2f3cbf2df4ed37224648d58c2596ff1c3e2fd743b3343570c40fc5b2e2641fea", func := "assize/assizelaw26.DrawBijection", spec := "drawBijection", unfollowed := true, recurses := true, plainKeys := false, apart := false, narrowed := true }
def DrawBijectionUptoSaid : Prop := drawBijectionUptoRow.holds Try.pinned (OpenSpec.upto drawBijectionSpec)

/-- 'assizelaw26.DrawSums', WHERE WHAT IT READS IS OF BULK AT MOST 1048576: true; the input reads as it did. -/
def drawSumsUptoRow : OpenClaim := { program := "ytbkgkgigcohbpaa", sum := "2f3cbf2df4ed37224648d58c2596ff1c3e2fd743b3343570c40fc5b2e2641fea", func := "assize/assizelaw26.DrawSums", spec := "drawSums", unfollowed := true, recurses := true, plainKeys := false, apart := false, narrowed := true }
def DrawSumsUptoSaid : Prop := drawSumsUptoRow.holds Try.pinned (OpenSpec.upto drawSumsSpec)

/-- 'assizelaw26.DrawForbids', WHERE WHAT IT READS IS OF BULK AT MOST 1048576: true; the input reads as it did. -/
def drawForbidsUptoRow : OpenClaim := { program := "ytbkgkgigcohbpaa", sum := "2f3cbf2df4ed37224648d58c2596ff1c3e2fd743b3343570c40fc5b2e2641fea", func := "assize/assizelaw26.DrawForbids", spec := "drawForbids", unfollowed := true, recurses := true, plainKeys := false, apart := false, narrowed := true }
def DrawForbidsUptoSaid : Prop := drawForbidsUptoRow.holds Try.pinned (OpenSpec.upto drawForbidsSpec)

/-- 'assizelaw26.DrawMatches', WHERE WHAT IT READS IS OF BULK AT MOST 1048576: true; the input reads as it did. -/
def drawMatchesUptoRow : OpenClaim := { program := "ytbkgkgigcohbpaa", sum := "2f3cbf2df4ed37224648d58c2596ff1c3e2fd743b3343570c40fc5b2e2641fea", func := "assize/assizelaw26.DrawMatches", spec := "drawMatches", unfollowed := true, recurses := true, plainKeys := false, apart := false, narrowed := true }
def DrawMatchesUptoSaid : Prop := drawMatchesUptoRow.holds Try.pinned (OpenSpec.upto drawMatchesSpec)

end Rows
end Go.Proofs.Ytbkgkgigcohbpaa
