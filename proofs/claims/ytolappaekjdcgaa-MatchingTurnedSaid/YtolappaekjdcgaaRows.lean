/-
  No cell of these rows narrows 'for every input' (looked for: loops, veiled, ifaces, maps, wideKeys, modest, calm, conditions, laid).
  DERIVED. THE GIVEN ROWS OF THIS SEAT. 7 by the template 'for every input the law returns true; each argument reads behind the call as it read before'; 0 by the template 'total and deterministic' (their statements: YtolappaekjdcgaaTotals.lean).
  GIVEN WITH THE SEED: the statements are not yours to turn. If you find one false, say at which input.
  Laid BY PROGRAM, IN A SANDBOX (cutbox-rows.mjs): the forced cells as the released guide's own fill.sh prints them over the translation b93ea5bec2f15ed4… (all of the seat's roots in one cut). By AI agents, Wed Nov 11 2026. No macro, syntax, notation, axiom, sorry.
-/
import Derived.Test.YtolappaekjdcgaaChecked
import GoSem.Claim
import GoSem.ClaimJoined
import GoSem.ClaimMapViews
import Derived.JoinedTies
import Derived.KernelRfl
namespace Go.Proofs.Ytolappaekjdcgaa
/- THE CELL 'sum', in the pinned program and in every row, IS THE sha256 OF THE DUMP (.gsa) THAT YtolappaekjdcgaaProg.lean LOADS. Nothing in Lean hashes anything: it is a label: what it is worth is what the hold of that sum in a sandbox is worth. -/
noncomputable def Try.pinned : Pinned := { name := "ytolappaekjdcgaa", sum := "b93ea5bec2f15ed46edeeacd8df9769fbcbf8dd7de1feabf98eded1db06e97ae", checked := Try.checked }
namespace Rows
def none {H : Type} : Left H := { results := [], args := [] }

/-- 'assizelaw25.MatchingCheckSpec': WHATEVER THE INPUT: true; the input reads as it did. -/
def matchingCheckSpecSpec : ChangeSpec := { name := "matchingCheckSpec", fn := fun _ => fun
  | [d1, d2] => { results := [.lit (.bool true)], args := [d1, d2] }
  | _ => none }
def matchingCheckSpecRow : OpenClaim := { program := "ytolappaekjdcgaa", sum := "b93ea5bec2f15ed46edeeacd8df9769fbcbf8dd7de1feabf98eded1db06e97ae", func := "assize/assizelaw25.MatchingCheckSpec", spec := "matchingCheckSpec", unfollowed := true, recurses := true, apart := false }
def MatchingCheckSpecSaid : Prop := matchingCheckSpecRow.holds Try.pinned (OpenSpec.ofChange matchingCheckSpecSpec)

/-- ITS FALSE NEIGHBOUR: 'it returns false'. Refute it at one input. -/
def matchingCheckSpecWrong : ChangeSpec := { name := "matchingCheckSpec", fn := fun _ => fun
  | [d1, d2] => { results := [.lit (.bool false)], args := [d1, d2] }
  | _ => none }
def MatchingCheckSpecWrongFalsely : Prop := matchingCheckSpecRow.holds Try.pinned (OpenSpec.ofChange matchingCheckSpecWrong)

/-- 'assizelaw25.MatchingMaxSpec': WHATEVER THE INPUT: true; the input reads as it did. -/
def matchingMaxSpecSpec : ChangeSpec := { name := "matchingMaxSpec", fn := fun _ => fun
  | [d] => { results := [.lit (.bool true)], args := [d] }
  | _ => none }
def matchingMaxSpecRow : OpenClaim := { program := "ytolappaekjdcgaa", sum := "b93ea5bec2f15ed46edeeacd8df9769fbcbf8dd7de1feabf98eded1db06e97ae", func := "assize/assizelaw25.MatchingMaxSpec", spec := "matchingMaxSpec", unfollowed := true, recurses := true, apart := false }
def MatchingMaxSpecSaid : Prop := matchingMaxSpecRow.holds Try.pinned (OpenSpec.ofChange matchingMaxSpecSpec)

/-- ITS FALSE NEIGHBOUR: 'it returns false'. Refute it at one input. -/
def matchingMaxSpecWrong : ChangeSpec := { name := "matchingMaxSpec", fn := fun _ => fun
  | [d] => { results := [.lit (.bool false)], args := [d] }
  | _ => none }
def MatchingMaxSpecWrongFalsely : Prop := matchingMaxSpecRow.holds Try.pinned (OpenSpec.ofChange matchingMaxSpecWrong)

/-- 'assizelaw25.MatchingKonig': WHATEVER THE INPUT: true; the input reads as it did. -/
def matchingKonigSpec : ChangeSpec := { name := "matchingKonig", fn := fun _ => fun
  | [d] => { results := [.lit (.bool true)], args := [d] }
  | _ => none }
def matchingKonigRow : OpenClaim := { program := "ytolappaekjdcgaa", sum := "b93ea5bec2f15ed46edeeacd8df9769fbcbf8dd7de1feabf98eded1db06e97ae", func := "assize/assizelaw25.MatchingKonig", spec := "matchingKonig", unfollowed := true, recurses := true, apart := false }
def MatchingKonigSaid : Prop := matchingKonigRow.holds Try.pinned (OpenSpec.ofChange matchingKonigSpec)

/-- ITS FALSE NEIGHBOUR: 'it returns false'. Refute it at one input. -/
def matchingKonigWrong : ChangeSpec := { name := "matchingKonig", fn := fun _ => fun
  | [d] => { results := [.lit (.bool false)], args := [d] }
  | _ => none }
def MatchingKonigWrongFalsely : Prop := matchingKonigRow.holds Try.pinned (OpenSpec.ofChange matchingKonigWrong)

/-- 'assizelaw25.MatchingHall': WHATEVER THE INPUT: true; the input reads as it did. -/
def matchingHallSpec : ChangeSpec := { name := "matchingHall", fn := fun _ => fun
  | [d] => { results := [.lit (.bool true)], args := [d] }
  | _ => none }
def matchingHallRow : OpenClaim := { program := "ytolappaekjdcgaa", sum := "b93ea5bec2f15ed46edeeacd8df9769fbcbf8dd7de1feabf98eded1db06e97ae", func := "assize/assizelaw25.MatchingHall", spec := "matchingHall", unfollowed := true, recurses := true, apart := false }
def MatchingHallSaid : Prop := matchingHallRow.holds Try.pinned (OpenSpec.ofChange matchingHallSpec)

/-- ITS FALSE NEIGHBOUR: 'it returns false'. Refute it at one input. -/
def matchingHallWrong : ChangeSpec := { name := "matchingHall", fn := fun _ => fun
  | [d] => { results := [.lit (.bool false)], args := [d] }
  | _ => none }
def MatchingHallWrongFalsely : Prop := matchingHallRow.holds Try.pinned (OpenSpec.ofChange matchingHallWrong)

/-- 'assizelaw25.MatchingBounds': WHATEVER THE INPUT: true; the input reads as it did. -/
def matchingBoundsSpec : ChangeSpec := { name := "matchingBounds", fn := fun _ => fun
  | [d1, d2] => { results := [.lit (.bool true)], args := [d1, d2] }
  | _ => none }
def matchingBoundsRow : OpenClaim := { program := "ytolappaekjdcgaa", sum := "b93ea5bec2f15ed46edeeacd8df9769fbcbf8dd7de1feabf98eded1db06e97ae", func := "assize/assizelaw25.MatchingBounds", spec := "matchingBounds", unfollowed := true, recurses := true, apart := false }
def MatchingBoundsSaid : Prop := matchingBoundsRow.holds Try.pinned (OpenSpec.ofChange matchingBoundsSpec)

/-- ITS FALSE NEIGHBOUR: 'it returns false'. Refute it at one input. -/
def matchingBoundsWrong : ChangeSpec := { name := "matchingBounds", fn := fun _ => fun
  | [d1, d2] => { results := [.lit (.bool false)], args := [d1, d2] }
  | _ => none }
def MatchingBoundsWrongFalsely : Prop := matchingBoundsRow.holds Try.pinned (OpenSpec.ofChange matchingBoundsWrong)

/-- 'assizelaw25.MatchingGrows': WHATEVER THE INPUT: true; the input reads as it did. -/
def matchingGrowsSpec : ChangeSpec := { name := "matchingGrows", fn := fun _ => fun
  | [d1, d2] => { results := [.lit (.bool true)], args := [d1, d2] }
  | _ => none }
def matchingGrowsRow : OpenClaim := { program := "ytolappaekjdcgaa", sum := "b93ea5bec2f15ed46edeeacd8df9769fbcbf8dd7de1feabf98eded1db06e97ae", func := "assize/assizelaw25.MatchingGrows", spec := "matchingGrows", unfollowed := true, recurses := true, apart := false }
def MatchingGrowsSaid : Prop := matchingGrowsRow.holds Try.pinned (OpenSpec.ofChange matchingGrowsSpec)

/-- ITS FALSE NEIGHBOUR: 'it returns false'. Refute it at one input. -/
def matchingGrowsWrong : ChangeSpec := { name := "matchingGrows", fn := fun _ => fun
  | [d1, d2] => { results := [.lit (.bool false)], args := [d1, d2] }
  | _ => none }
def MatchingGrowsWrongFalsely : Prop := matchingGrowsRow.holds Try.pinned (OpenSpec.ofChange matchingGrowsWrong)

/-- 'assizelaw25.MatchingTurned': WHATEVER THE INPUT: true; the input reads as it did. -/
def matchingTurnedSpec : ChangeSpec := { name := "matchingTurned", fn := fun _ => fun
  | [d] => { results := [.lit (.bool true)], args := [d] }
  | _ => none }
def matchingTurnedRow : OpenClaim := { program := "ytolappaekjdcgaa", sum := "b93ea5bec2f15ed46edeeacd8df9769fbcbf8dd7de1feabf98eded1db06e97ae", func := "assize/assizelaw25.MatchingTurned", spec := "matchingTurned", unfollowed := true, recurses := true, apart := false }
def MatchingTurnedSaid : Prop := matchingTurnedRow.holds Try.pinned (OpenSpec.ofChange matchingTurnedSpec)

/-- ITS FALSE NEIGHBOUR: 'it returns false'. Refute it at one input. -/
def matchingTurnedWrong : ChangeSpec := { name := "matchingTurned", fn := fun _ => fun
  | [d] => { results := [.lit (.bool false)], args := [d] }
  | _ => none }
def MatchingTurnedWrongFalsely : Prop := matchingTurnedRow.holds Try.pinned (OpenSpec.ofChange matchingTurnedWrong)

/- THE SECOND FORM. 'bulk': how many values and letters a reading holds, each counted each time it is reached (what is shared counts as often as it is met; a slice's spare places count too). A statement '..UptoSaid' is the law's where the arguments, and the package variables that the reading takes, are together of bulk at most 1048576: NARROWER than '..Said'. Prove '..Said' where nothing that the law and all that it calls make is longer than what came in: it says more and counts as full. Else prove '..UptoSaid'. A law counts once. -/
mutual
def uptoBulk {H : Type} : DataW H → Nat
  | .lit (.string bytes) => bytes.length + 1
  | .lit _ => 1
  | .nil => 1
  | .ptr d => uptoBulk d + 1
  | .slice elems spare => uptoBulkAll elems + uptoBulkAll spare + 1
  | .agg parts => uptoBulkAll parts + 1
  | .iface _ d => uptoBulk d + 1
  | .map entries => uptoBulkEntries entries + 1
  | .held _ => 1
def uptoBulkAll {H : Type} : List (DataW H) → Nat
  | [] => 0
  | d :: r => uptoBulk d + uptoBulkAll r
def uptoBulkEntries {H : Type} : List (Lit × DataW H) → Nat
  | [] => 0
  | x :: r => uptoBulkEntry x + uptoBulkEntries r
def uptoBulkEntry {H : Type} : Lit × DataW H → Nat
  | (.string bytes, d) => bytes.length + uptoBulk d + 1
  | (_, d) => uptoBulk d + 1
 end
def uptoSmall : (H : Type) → List (DataW H) → Bool := fun _ ds => decide (uptoBulkAll ds ≤ 1048576)
def OpenSpec.upto (s : _root_.Go.ChangeSpec) : _root_.Go.OpenSpec := { _root_.Go.OpenSpec.ofChange s with cond := some uptoSmall }

/-- 'assizelaw25.MatchingCheckSpec', WHERE WHAT IT READS IS OF BULK AT MOST 1048576: true; the input reads as it did. -/
def matchingCheckSpecUptoRow : OpenClaim := { program := "ytolappaekjdcgaa", sum := "b93ea5bec2f15ed46edeeacd8df9769fbcbf8dd7de1feabf98eded1db06e97ae", func := "assize/assizelaw25.MatchingCheckSpec", spec := "matchingCheckSpec", unfollowed := true, recurses := true, apart := false, narrowed := true }
def MatchingCheckSpecUptoSaid : Prop := matchingCheckSpecUptoRow.holds Try.pinned (OpenSpec.upto matchingCheckSpecSpec)

/-- 'assizelaw25.MatchingMaxSpec', WHERE WHAT IT READS IS OF BULK AT MOST 1048576: true; the input reads as it did. -/
def matchingMaxSpecUptoRow : OpenClaim := { program := "ytolappaekjdcgaa", sum := "b93ea5bec2f15ed46edeeacd8df9769fbcbf8dd7de1feabf98eded1db06e97ae", func := "assize/assizelaw25.MatchingMaxSpec", spec := "matchingMaxSpec", unfollowed := true, recurses := true, apart := false, narrowed := true }
def MatchingMaxSpecUptoSaid : Prop := matchingMaxSpecUptoRow.holds Try.pinned (OpenSpec.upto matchingMaxSpecSpec)

/-- 'assizelaw25.MatchingKonig', WHERE WHAT IT READS IS OF BULK AT MOST 1048576: true; the input reads as it did. -/
def matchingKonigUptoRow : OpenClaim := { program := "ytolappaekjdcgaa", sum := "b93ea5bec2f15ed46edeeacd8df9769fbcbf8dd7de1feabf98eded1db06e97ae", func := "assize/assizelaw25.MatchingKonig", spec := "matchingKonig", unfollowed := true, recurses := true, apart := false, narrowed := true }
def MatchingKonigUptoSaid : Prop := matchingKonigUptoRow.holds Try.pinned (OpenSpec.upto matchingKonigSpec)

/-- 'assizelaw25.MatchingHall', WHERE WHAT IT READS IS OF BULK AT MOST 1048576: true; the input reads as it did. -/
def matchingHallUptoRow : OpenClaim := { program := "ytolappaekjdcgaa", sum := "b93ea5bec2f15ed46edeeacd8df9769fbcbf8dd7de1feabf98eded1db06e97ae", func := "assize/assizelaw25.MatchingHall", spec := "matchingHall", unfollowed := true, recurses := true, apart := false, narrowed := true }
def MatchingHallUptoSaid : Prop := matchingHallUptoRow.holds Try.pinned (OpenSpec.upto matchingHallSpec)

/-- 'assizelaw25.MatchingBounds', WHERE WHAT IT READS IS OF BULK AT MOST 1048576: true; the input reads as it did. -/
def matchingBoundsUptoRow : OpenClaim := { program := "ytolappaekjdcgaa", sum := "b93ea5bec2f15ed46edeeacd8df9769fbcbf8dd7de1feabf98eded1db06e97ae", func := "assize/assizelaw25.MatchingBounds", spec := "matchingBounds", unfollowed := true, recurses := true, apart := false, narrowed := true }
def MatchingBoundsUptoSaid : Prop := matchingBoundsUptoRow.holds Try.pinned (OpenSpec.upto matchingBoundsSpec)

/-- 'assizelaw25.MatchingGrows', WHERE WHAT IT READS IS OF BULK AT MOST 1048576: true; the input reads as it did. -/
def matchingGrowsUptoRow : OpenClaim := { program := "ytolappaekjdcgaa", sum := "b93ea5bec2f15ed46edeeacd8df9769fbcbf8dd7de1feabf98eded1db06e97ae", func := "assize/assizelaw25.MatchingGrows", spec := "matchingGrows", unfollowed := true, recurses := true, apart := false, narrowed := true }
def MatchingGrowsUptoSaid : Prop := matchingGrowsUptoRow.holds Try.pinned (OpenSpec.upto matchingGrowsSpec)

/-- 'assizelaw25.MatchingTurned', WHERE WHAT IT READS IS OF BULK AT MOST 1048576: true; the input reads as it did. -/
def matchingTurnedUptoRow : OpenClaim := { program := "ytolappaekjdcgaa", sum := "b93ea5bec2f15ed46edeeacd8df9769fbcbf8dd7de1feabf98eded1db06e97ae", func := "assize/assizelaw25.MatchingTurned", spec := "matchingTurned", unfollowed := true, recurses := true, apart := false, narrowed := true }
def MatchingTurnedUptoSaid : Prop := matchingTurnedUptoRow.holds Try.pinned (OpenSpec.upto matchingTurnedSpec)

end Rows
end Go.Proofs.Ytolappaekjdcgaa
