/-
  No cell of these rows narrows 'for every input' (looked for: loops, veiled, ifaces, maps, wideKeys, modest, calm, conditions, laid).
  DERIVED. THE GIVEN ROWS OF THIS SEAT. 6 by the template 'for every input the law returns true; each argument reads behind the call as it read before'; 0 by the template 'total and deterministic' (their statements: YtgaanndidcdbpaaTotals.lean).
  GIVEN WITH THE SEED: the statements are not yours to turn. If you find one false, say at which input.
  Laid BY PROGRAM, IN A SANDBOX (cutbox-rows.mjs): the forced cells as the released guide's own fill.sh prints them over the translation 5beae229a7172240… (all of the seat's roots in one cut). By AI agents, Wed Nov 11 2026. No macro, syntax, notation, axiom, sorry.
-/
import Derived.Test.YtgaanndidcdbpaaChecked
import GoSem.Claim
import GoSem.ClaimJoined
import GoSem.ClaimMapViews
import Derived.JoinedTies
import Derived.KernelRfl
namespace Go.Proofs.Ytgaanndidcdbpaa
/- THE CELL 'sum', in the pinned program and in every row, IS THE sha256 OF THE DUMP (.gsa) THAT YtgaanndidcdbpaaProg.lean LOADS. Nothing in Lean hashes anything: it is a label: what it is worth is what the hold of that sum in a sandbox is worth. -/
noncomputable def Try.pinned : Pinned := { name := "ytgaanndidcdbpaa", sum := "5beae229a7172240530cd26a960ccddce2aa3f3e9d68bdb7ca1d80202987375c", checked := Try.checked }
namespace Rows
def none {H : Type} : Left H := { results := [], args := [] }

/-- 'assizelaw24.BeaconFixed': WHATEVER THE INPUT: true; the input reads as it did. -/
def beaconFixedSpec : ChangeSpec := { name := "beaconFixed", fn := fun _ => fun
  | [d1, d2, d3, d4, d5] => { results := [.lit (.bool true)], args := [d1, d2, d3, d4, d5] }
  | _ => none }
def beaconFixedRow : OpenClaim := { program := "ytgaanndidcdbpaa", sum := "5beae229a7172240530cd26a960ccddce2aa3f3e9d68bdb7ca1d80202987375c", func := "assize/assizelaw24.BeaconFixed", spec := "beaconFixed", unfollowed := true, recurses := true, named := ["math/bits.divideError", "math/bits.overflowError"], plainKeys := false, apart := false }
def BeaconFixedSaid : Prop := beaconFixedRow.holds Try.pinned (OpenSpec.ofChange beaconFixedSpec)

/-- ITS FALSE NEIGHBOUR: 'it returns false'. Refute it at one input. -/
def beaconFixedWrong : ChangeSpec := { name := "beaconFixed", fn := fun _ => fun
  | [d1, d2, d3, d4, d5] => { results := [.lit (.bool false)], args := [d1, d2, d3, d4, d5] }
  | _ => none }
def BeaconFixedWrongFalsely : Prop := beaconFixedRow.holds Try.pinned (OpenSpec.ofChange beaconFixedWrong)

/-- 'assizelaw24.BeaconFair': WHATEVER THE INPUT: true; the input reads as it did. -/
def beaconFairSpec : ChangeSpec := { name := "beaconFair", fn := fun _ => fun
  | [d1, d2, d3, d4, d5] => { results := [.lit (.bool true)], args := [d1, d2, d3, d4, d5] }
  | _ => none }
def beaconFairRow : OpenClaim := { program := "ytgaanndidcdbpaa", sum := "5beae229a7172240530cd26a960ccddce2aa3f3e9d68bdb7ca1d80202987375c", func := "assize/assizelaw24.BeaconFair", spec := "beaconFair", unfollowed := true, recurses := true, named := ["math/bits.divideError", "math/bits.overflowError"], plainKeys := false, apart := false }
def BeaconFairSaid : Prop := beaconFairRow.holds Try.pinned (OpenSpec.ofChange beaconFairSpec)

/-- ITS FALSE NEIGHBOUR: 'it returns false'. Refute it at one input. -/
def beaconFairWrong : ChangeSpec := { name := "beaconFair", fn := fun _ => fun
  | [d1, d2, d3, d4, d5] => { results := [.lit (.bool false)], args := [d1, d2, d3, d4, d5] }
  | _ => none }
def BeaconFairWrongFalsely : Prop := beaconFairRow.holds Try.pinned (OpenSpec.ofChange beaconFairWrong)

/-- 'assizelaw24.BeaconOpens': WHATEVER THE INPUT: true; the input reads as it did. -/
def beaconOpensSpec : ChangeSpec := { name := "beaconOpens", fn := fun _ => fun
  | [d1, d2, d3, d4, d5, d6] => { results := [.lit (.bool true)], args := [d1, d2, d3, d4, d5, d6] }
  | _ => none }
def beaconOpensRow : OpenClaim := { program := "ytgaanndidcdbpaa", sum := "5beae229a7172240530cd26a960ccddce2aa3f3e9d68bdb7ca1d80202987375c", func := "assize/assizelaw24.BeaconOpens", spec := "beaconOpens", unfollowed := true, recurses := true, named := ["math/bits.divideError", "math/bits.overflowError"], plainKeys := false, apart := false }
def BeaconOpensSaid : Prop := beaconOpensRow.holds Try.pinned (OpenSpec.ofChange beaconOpensSpec)

/-- ITS FALSE NEIGHBOUR: 'it returns false'. Refute it at one input. -/
def beaconOpensWrong : ChangeSpec := { name := "beaconOpens", fn := fun _ => fun
  | [d1, d2, d3, d4, d5, d6] => { results := [.lit (.bool false)], args := [d1, d2, d3, d4, d5, d6] }
  | _ => none }
def BeaconOpensWrongFalsely : Prop := beaconOpensRow.holds Try.pinned (OpenSpec.ofChange beaconOpensWrong)

/-- 'assizelaw24.BeaconRefuses': WHATEVER THE INPUT: true; the input reads as it did. -/
def beaconRefusesSpec : ChangeSpec := { name := "beaconRefuses", fn := fun _ => fun
  | [d1, d2, d3, d4, d5, d6] => { results := [.lit (.bool true)], args := [d1, d2, d3, d4, d5, d6] }
  | _ => none }
def beaconRefusesRow : OpenClaim := { program := "ytgaanndidcdbpaa", sum := "5beae229a7172240530cd26a960ccddce2aa3f3e9d68bdb7ca1d80202987375c", func := "assize/assizelaw24.BeaconRefuses", spec := "beaconRefuses", unfollowed := true, recurses := true, named := ["math/bits.divideError", "math/bits.overflowError"], plainKeys := false, apart := false }
def BeaconRefusesSaid : Prop := beaconRefusesRow.holds Try.pinned (OpenSpec.ofChange beaconRefusesSpec)

/-- ITS FALSE NEIGHBOUR: 'it returns false'. Refute it at one input. -/
def beaconRefusesWrong : ChangeSpec := { name := "beaconRefuses", fn := fun _ => fun
  | [d1, d2, d3, d4, d5, d6] => { results := [.lit (.bool false)], args := [d1, d2, d3, d4, d5, d6] }
  | _ => none }
def BeaconRefusesWrongFalsely : Prop := beaconRefusesRow.holds Try.pinned (OpenSpec.ofChange beaconRefusesWrong)

/-- 'assizelaw24.BeaconValid': WHATEVER THE INPUT: true; the input reads as it did. -/
def beaconValidSpec : ChangeSpec := { name := "beaconValid", fn := fun _ => fun
  | [d1, d2, d3, d4] => { results := [.lit (.bool true)], args := [d1, d2, d3, d4] }
  | _ => none }
def beaconValidRow : OpenClaim := { program := "ytgaanndidcdbpaa", sum := "5beae229a7172240530cd26a960ccddce2aa3f3e9d68bdb7ca1d80202987375c", func := "assize/assizelaw24.BeaconValid", spec := "beaconValid", unfollowed := true, recurses := true, named := ["math/bits.divideError", "math/bits.overflowError"], plainKeys := false, apart := false }
def BeaconValidSaid : Prop := beaconValidRow.holds Try.pinned (OpenSpec.ofChange beaconValidSpec)

/-- ITS FALSE NEIGHBOUR: 'it returns false'. Refute it at one input. -/
def beaconValidWrong : ChangeSpec := { name := "beaconValid", fn := fun _ => fun
  | [d1, d2, d3, d4] => { results := [.lit (.bool false)], args := [d1, d2, d3, d4] }
  | _ => none }
def BeaconValidWrongFalsely : Prop := beaconValidRow.holds Try.pinned (OpenSpec.ofChange beaconValidWrong)

/-- 'assizetop.TopDraw': WHATEVER THE INPUT: true; the input reads as it did. -/
def topDrawSpec : ChangeSpec := { name := "topDraw", fn := fun _ => fun
  | [d1, d2, d3, d4, d5] => { results := [.lit (.bool true)], args := [d1, d2, d3, d4, d5] }
  | _ => none }
def topDrawRow : OpenClaim := { program := "ytgaanndidcdbpaa", sum := "5beae229a7172240530cd26a960ccddce2aa3f3e9d68bdb7ca1d80202987375c", func := "assize/assizetop.TopDraw", spec := "topDraw", unfollowed := true, recurses := true, named := ["math/bits.divideError", "math/bits.overflowError"], plainKeys := false, apart := false }
def TopDrawSaid : Prop := topDrawRow.holds Try.pinned (OpenSpec.ofChange topDrawSpec)

/-- ITS FALSE NEIGHBOUR: 'it returns false'. Refute it at one input. -/
def topDrawWrong : ChangeSpec := { name := "topDraw", fn := fun _ => fun
  | [d1, d2, d3, d4, d5] => { results := [.lit (.bool false)], args := [d1, d2, d3, d4, d5] }
  | _ => none }
def TopDrawWrongFalsely : Prop := topDrawRow.holds Try.pinned (OpenSpec.ofChange topDrawWrong)

/- THE SECOND FORM. 'bulk': how many values and letters a reading holds, each counted each time it is reached (what is shared counts as often as it is met; a slice's spare places count too). A statement '..UptoSaid' is the law's where the arguments, and the package variables that the reading takes, are together of bulk at most 1048576: NARROWER than '..Said'. Prove '..Said' where nothing that the law and all that it calls make is longer than what came in: it says more and counts as full. Else prove '..UptoSaid'. A law counts once. -/
mutual
def uptoBulk {H : Type} : DataW H → Nat
  | .lit (.string bytes) => bytes.length + 1
  | .lit _ => 1
  | .nil => 1
  | .ptr d => uptoBulk d + 1
  | .slice elems spare => uptoBulkAll elems + uptoBulkAll spare + 1
  | .agg parts => uptoBulkAll parts + 1
  | .iface _ d => uptoBulk d + 1
  | .map entries => uptoBulkEntries entries + 1
  | .held _ => 1
def uptoBulkAll {H : Type} : List (DataW H) → Nat
  | [] => 0
  | d :: r => uptoBulk d + uptoBulkAll r
def uptoBulkEntries {H : Type} : List (Lit × DataW H) → Nat
  | [] => 0
  | x :: r => uptoBulkEntry x + uptoBulkEntries r
def uptoBulkEntry {H : Type} : Lit × DataW H → Nat
  | (.string bytes, d) => bytes.length + uptoBulk d + 1
  | (_, d) => uptoBulk d + 1
 end
def uptoSmall : (H : Type) → List (DataW H) → Bool := fun _ ds => decide (uptoBulkAll ds ≤ 1048576)
def OpenSpec.upto (s : _root_.Go.ChangeSpec) : _root_.Go.OpenSpec := { _root_.Go.OpenSpec.ofChange s with cond := some uptoSmall }

/-- 'assizelaw24.BeaconFixed', WHERE WHAT IT READS IS OF BULK AT MOST 1048576: true; the input reads as it did. -/
def beaconFixedUptoRow : OpenClaim := { program := "ytgaanndidcdbpaa", sum := "5beae229a7172240530cd26a960ccddce2aa3f3e9d68bdb7ca1d80202987375c", func := "assize/assizelaw24.BeaconFixed", spec := "beaconFixed", unfollowed := true, recurses := true, named := ["math/bits.divideError", "math/bits.overflowError"], plainKeys := false, apart := false, narrowed := true }
def BeaconFixedUptoSaid : Prop := beaconFixedUptoRow.holds Try.pinned (OpenSpec.upto beaconFixedSpec)

/-- 'assizelaw24.BeaconFair', WHERE WHAT IT READS IS OF BULK AT MOST 1048576: true; the input reads as it did. -/
def beaconFairUptoRow : OpenClaim := { program := "ytgaanndidcdbpaa", sum := "5beae229a7172240530cd26a960ccddce2aa3f3e9d68bdb7ca1d80202987375c", func := "assize/assizelaw24.BeaconFair", spec := "beaconFair", unfollowed := true, recurses := true, named := ["math/bits.divideError", "math/bits.overflowError"], plainKeys := false, apart := false, narrowed := true }
def BeaconFairUptoSaid : Prop := beaconFairUptoRow.holds Try.pinned (OpenSpec.upto beaconFairSpec)

/-- 'assizelaw24.BeaconOpens', WHERE WHAT IT READS IS OF BULK AT MOST 1048576: true; the input reads as it did. -/
def beaconOpensUptoRow : OpenClaim := { program := "ytgaanndidcdbpaa", sum := "5beae229a7172240530cd26a960ccddce2aa3f3e9d68bdb7ca1d80202987375c", func := "assize/assizelaw24.BeaconOpens", spec := "beaconOpens", unfollowed := true, recurses := true, named := ["math/bits.divideError", "math/bits.overflowError"], plainKeys := false, apart := false, narrowed := true }
def BeaconOpensUptoSaid : Prop := beaconOpensUptoRow.holds Try.pinned (OpenSpec.upto beaconOpensSpec)

/-- 'assizelaw24.BeaconRefuses', WHERE WHAT IT READS IS OF BULK AT MOST 1048576: true; the input reads as it did. -/
def beaconRefusesUptoRow : OpenClaim := { program := "ytgaanndidcdbpaa", sum := "5beae229a7172240530cd26a960ccddce2aa3f3e9d68bdb7ca1d80202987375c", func := "assize/assizelaw24.BeaconRefuses", spec := "beaconRefuses", unfollowed := true, recurses := true, named := ["math/bits.divideError", "math/bits.overflowError"], plainKeys := false, apart := false, narrowed := true }
def BeaconRefusesUptoSaid : Prop := beaconRefusesUptoRow.holds Try.pinned (OpenSpec.upto beaconRefusesSpec)

/-- 'assizelaw24.BeaconValid', WHERE WHAT IT READS IS OF BULK AT MOST 1048576: true; the input reads as it did. -/
def beaconValidUptoRow : OpenClaim := { program := "ytgaanndidcdbpaa", sum := "5beae229a7172240530cd26a960ccddce2aa3f3e9d68bdb7ca1d80202987375c", func := "assize/assizelaw24.BeaconValid", spec := "beaconValid", unfollowed := true, recurses := true, named := ["math/bits.divideError", "math/bits.overflowError"], plainKeys := false, apart := false, narrowed := true }
def BeaconValidUptoSaid : Prop := beaconValidUptoRow.holds Try.pinned (OpenSpec.upto beaconValidSpec)

/-- 'assizetop.TopDraw', WHERE WHAT IT READS IS OF BULK AT MOST 1048576: true; the input reads as it did. -/
def topDrawUptoRow : OpenClaim := { program := "ytgaanndidcdbpaa", sum := "5beae229a7172240530cd26a960ccddce2aa3f3e9d68bdb7ca1d80202987375c", func := "assize/assizetop.TopDraw", spec := "topDraw", unfollowed := true, recurses := true, named := ["math/bits.divideError", "math/bits.overflowError"], plainKeys := false, apart := false, narrowed := true }
def TopDrawUptoSaid : Prop := topDrawUptoRow.holds Try.pinned (OpenSpec.upto topDrawSpec)

end Rows
end Go.Proofs.Ytgaanndidcdbpaa
