/-
  No cell of these rows narrows 'for every input' (looked for: loops, veiled, ifaces, maps, wideKeys, modest, calm, conditions, laid).
  DERIVED. THE GIVEN ROWS OF THIS SEAT. 7 by the template 'for every input the law returns true; each argument reads behind the call as it read before'; 0 by the template 'total and deterministic' (their statements: YtocjhepiooljpaaTotals.lean).
  GIVEN WITH THE SEED: the statements are not yours to turn. If you find one false, say at which input.
  Laid BY PROGRAM, IN A SANDBOX (cutbox-rows.mjs): the forced cells as the released guide's own fill.sh prints them over the translation cd3590f8b2055264… (all of the seat's roots in one cut). By AI agents, Wed Nov 11 2026. No macro, syntax, notation, axiom, sorry.
-/
import Derived.Test.YtocjhepiooljpaaChecked
import GoSem.Claim
import GoSem.ClaimJoined
import GoSem.ClaimMapViews
import Derived.JoinedTies
import Derived.KernelRfl
namespace Go.Proofs.Ytocjhepiooljpaa
/- THE CELL 'sum', in the pinned program and in every row, IS THE sha256 OF THE DUMP (.gsa) THAT YtocjhepiooljpaaProg.lean LOADS. Nothing in Lean hashes anything: it is a label: what it is worth is what the hold of that sum in a sandbox is worth. -/
noncomputable def Try.pinned : Pinned := { name := "ytocjhepiooljpaa", sum := "cd3590f8b2055264533925637ee996a6f508bc4706b426e89ed0a58c548c893c", checked := Try.checked }
namespace Rows
def none {H : Type} : Left H := { results := [], args := [] }

/-- 'assizelaw35.WalOpenSpec': WHATEVER THE INPUT: true; the input reads as it did. -/
def walOpenSpecSpec : ChangeSpec := { name := "walOpenSpec", fn := fun _ => fun
  | [d] => { results := [.lit (.bool true)], args := [d] }
  | _ => none }
def walOpenSpecRow : OpenClaim := { program := "ytocjhepiooljpaa", sum := "cd3590f8b2055264533925637ee996a6f508bc4706b426e89ed0a58c548c893c", func := "assize/assizelaw35.WalOpenSpec", spec := "walOpenSpec", unfollowed := true, recurses := true, apart := false }
def WalOpenSpecSaid : Prop := walOpenSpecRow.holds Try.pinned (OpenSpec.ofChange walOpenSpecSpec)

/-- ITS FALSE NEIGHBOUR: 'it returns false'. Refute it at one input. -/
def walOpenSpecWrong : ChangeSpec := { name := "walOpenSpec", fn := fun _ => fun
  | [d] => { results := [.lit (.bool false)], args := [d] }
  | _ => none }
def WalOpenSpecWrongFalsely : Prop := walOpenSpecRow.holds Try.pinned (OpenSpec.ofChange walOpenSpecWrong)

/-- 'assizelaw35.WalAppendSpec': WHATEVER THE INPUT: true; the input reads as it did. -/
def walAppendSpecSpec : ChangeSpec := { name := "walAppendSpec", fn := fun _ => fun
  | [d1, d2] => { results := [.lit (.bool true)], args := [d1, d2] }
  | _ => none }
def walAppendSpecRow : OpenClaim := { program := "ytocjhepiooljpaa", sum := "cd3590f8b2055264533925637ee996a6f508bc4706b426e89ed0a58c548c893c", func := "assize/assizelaw35.WalAppendSpec", spec := "walAppendSpec", unfollowed := true, recurses := true, apart := false }
def WalAppendSpecSaid : Prop := walAppendSpecRow.holds Try.pinned (OpenSpec.ofChange walAppendSpecSpec)

/-- ITS FALSE NEIGHBOUR: 'it returns false'. Refute it at one input. -/
def walAppendSpecWrong : ChangeSpec := { name := "walAppendSpec", fn := fun _ => fun
  | [d1, d2] => { results := [.lit (.bool false)], args := [d1, d2] }
  | _ => none }
def WalAppendSpecWrongFalsely : Prop := walAppendSpecRow.holds Try.pinned (OpenSpec.ofChange walAppendSpecWrong)

/-- 'assizelaw35.WalSyncSpec': WHATEVER THE INPUT: true; the input reads as it did. -/
def walSyncSpecSpec : ChangeSpec := { name := "walSyncSpec", fn := fun _ => fun
  | [d1, d2] => { results := [.lit (.bool true)], args := [d1, d2] }
  | _ => none }
def walSyncSpecRow : OpenClaim := { program := "ytocjhepiooljpaa", sum := "cd3590f8b2055264533925637ee996a6f508bc4706b426e89ed0a58c548c893c", func := "assize/assizelaw35.WalSyncSpec", spec := "walSyncSpec", unfollowed := true, recurses := true, apart := false }
def WalSyncSpecSaid : Prop := walSyncSpecRow.holds Try.pinned (OpenSpec.ofChange walSyncSpecSpec)

/-- ITS FALSE NEIGHBOUR: 'it returns false'. Refute it at one input. -/
def walSyncSpecWrong : ChangeSpec := { name := "walSyncSpec", fn := fun _ => fun
  | [d1, d2] => { results := [.lit (.bool false)], args := [d1, d2] }
  | _ => none }
def WalSyncSpecWrongFalsely : Prop := walSyncSpecRow.holds Try.pinned (OpenSpec.ofChange walSyncSpecWrong)

/-- 'assizelaw35.WalRoom': WHATEVER THE INPUT: true; the input reads as it did. -/
def walRoomSpec : ChangeSpec := { name := "walRoom", fn := fun _ => fun
  | [d1, d2] => { results := [.lit (.bool true)], args := [d1, d2] }
  | _ => none }
def walRoomRow : OpenClaim := { program := "ytocjhepiooljpaa", sum := "cd3590f8b2055264533925637ee996a6f508bc4706b426e89ed0a58c548c893c", func := "assize/assizelaw35.WalRoom", spec := "walRoom", unfollowed := true, recurses := true, apart := false }
def WalRoomSaid : Prop := walRoomRow.holds Try.pinned (OpenSpec.ofChange walRoomSpec)

/-- ITS FALSE NEIGHBOUR: 'it returns false'. Refute it at one input. -/
def walRoomWrong : ChangeSpec := { name := "walRoom", fn := fun _ => fun
  | [d1, d2] => { results := [.lit (.bool false)], args := [d1, d2] }
  | _ => none }
def WalRoomWrongFalsely : Prop := walRoomRow.holds Try.pinned (OpenSpec.ofChange walRoomWrong)

/-- 'assizelaw35.WalDamage': WHATEVER THE INPUT: true; the input reads as it did. -/
def walDamageSpec : ChangeSpec := { name := "walDamage", fn := fun _ => fun
  | [d1, d2, d3, d4] => { results := [.lit (.bool true)], args := [d1, d2, d3, d4] }
  | _ => none }
def walDamageRow : OpenClaim := { program := "ytocjhepiooljpaa", sum := "cd3590f8b2055264533925637ee996a6f508bc4706b426e89ed0a58c548c893c", func := "assize/assizelaw35.WalDamage", spec := "walDamage", unfollowed := true, recurses := true, apart := false }
def WalDamageSaid : Prop := walDamageRow.holds Try.pinned (OpenSpec.ofChange walDamageSpec)

/-- ITS FALSE NEIGHBOUR: 'it returns false'. Refute it at one input. -/
def walDamageWrong : ChangeSpec := { name := "walDamage", fn := fun _ => fun
  | [d1, d2, d3, d4] => { results := [.lit (.bool false)], args := [d1, d2, d3, d4] }
  | _ => none }
def WalDamageWrongFalsely : Prop := walDamageRow.holds Try.pinned (OpenSpec.ofChange walDamageWrong)

/-- 'assizelaw35.WalSteps': WHATEVER THE INPUT: true; the input reads as it did. -/
def walStepsSpec : ChangeSpec := { name := "walSteps", fn := fun _ => fun
  | [d1, d2] => { results := [.lit (.bool true)], args := [d1, d2] }
  | _ => none }
def walStepsRow : OpenClaim := { program := "ytocjhepiooljpaa", sum := "cd3590f8b2055264533925637ee996a6f508bc4706b426e89ed0a58c548c893c", func := "assize/assizelaw35.WalSteps", spec := "walSteps", unfollowed := true, recurses := true, apart := false }
def WalStepsSaid : Prop := walStepsRow.holds Try.pinned (OpenSpec.ofChange walStepsSpec)

/-- ITS FALSE NEIGHBOUR: 'it returns false'. Refute it at one input. -/
def walStepsWrong : ChangeSpec := { name := "walSteps", fn := fun _ => fun
  | [d1, d2] => { results := [.lit (.bool false)], args := [d1, d2] }
  | _ => none }
def WalStepsWrongFalsely : Prop := walStepsRow.holds Try.pinned (OpenSpec.ofChange walStepsWrong)

/-- 'assizelaw35.WalSurvives': WHATEVER THE INPUT: true; the input reads as it did. -/
def walSurvivesSpec : ChangeSpec := { name := "walSurvives", fn := fun _ => fun
  | [d1, d2] => { results := [.lit (.bool true)], args := [d1, d2] }
  | _ => none }
def walSurvivesRow : OpenClaim := { program := "ytocjhepiooljpaa", sum := "cd3590f8b2055264533925637ee996a6f508bc4706b426e89ed0a58c548c893c", func := "assize/assizelaw35.WalSurvives", spec := "walSurvives", unfollowed := true, recurses := true, apart := false }
def WalSurvivesSaid : Prop := walSurvivesRow.holds Try.pinned (OpenSpec.ofChange walSurvivesSpec)

/-- ITS FALSE NEIGHBOUR: 'it returns false'. Refute it at one input. -/
def walSurvivesWrong : ChangeSpec := { name := "walSurvives", fn := fun _ => fun
  | [d1, d2] => { results := [.lit (.bool false)], args := [d1, d2] }
  | _ => none }
def WalSurvivesWrongFalsely : Prop := walSurvivesRow.holds Try.pinned (OpenSpec.ofChange walSurvivesWrong)

/- THE SECOND FORM. 'bulk': how many values and letters a reading holds, each counted each time it is reached (what is shared counts as often as it is met; a slice's spare places count too). A statement '..UptoSaid' is the law's where the arguments, and the package variables that the reading takes, are together of bulk at most 1048576: NARROWER than '..Said'. Prove '..Said' where nothing that the law and all that it calls make is longer than what came in: it says more and counts as full. Else prove '..UptoSaid'. A law counts once. -/
mutual
def uptoBulk {H : Type} : DataW H → Nat
  | .lit (.string bytes) => bytes.length + 1
  | .lit _ => 1
  | .nil => 1
  | .ptr d => uptoBulk d + 1
  | .slice elems spare => uptoBulkAll elems + uptoBulkAll spare + 1
  | .agg parts => uptoBulkAll parts + 1
  | .iface _ d => uptoBulk d + 1
  | .map entries => uptoBulkEntries entries + 1
  | .held _ => 1
def uptoBulkAll {H : Type} : List (DataW H) → Nat
  | [] => 0
  | d :: r => uptoBulk d + uptoBulkAll r
def uptoBulkEntries {H : Type} : List (Lit × DataW H) → Nat
  | [] => 0
  | x :: r => uptoBulkEntry x + uptoBulkEntries r
def uptoBulkEntry {H : Type} : Lit × DataW H → Nat
  | (.string bytes, d) => bytes.length + uptoBulk d + 1
  | (_, d) => uptoBulk d + 1
 end
def uptoSmall : (H : Type) → List (DataW H) → Bool := fun _ ds => decide (uptoBulkAll ds ≤ 1048576)
def OpenSpec.upto (s : _root_.Go.ChangeSpec) : _root_.Go.OpenSpec := { _root_.Go.OpenSpec.ofChange s with cond := some uptoSmall }

/-- 'assizelaw35.WalOpenSpec', WHERE WHAT IT READS IS OF BULK AT MOST 1048576: true; the input reads as it did. -/
def walOpenSpecUptoRow : OpenClaim := { program := "ytocjhepiooljpaa", sum := "cd3590f8b2055264533925637ee996a6f508bc4706b426e89ed0a58c548c893c", func := "assize/assizelaw35.WalOpenSpec", spec := "walOpenSpec", unfollowed := true, recurses := true, apart := false, narrowed := true }
def WalOpenSpecUptoSaid : Prop := walOpenSpecUptoRow.holds Try.pinned (OpenSpec.upto walOpenSpecSpec)

/-- 'assizelaw35.WalAppendSpec', WHERE WHAT IT READS IS OF BULK AT MOST 1048576: true; the input reads as it did. -/
def walAppendSpecUptoRow : OpenClaim := { program := "ytocjhepiooljpaa", sum := "cd3590f8b2055264533925637ee996a6f508bc4706b426e89ed0a58c548c893c", func := "assize/assizelaw35.WalAppendSpec", spec := "walAppendSpec", unfollowed := true, recurses := true, apart := false, narrowed := true }
def WalAppendSpecUptoSaid : Prop := walAppendSpecUptoRow.holds Try.pinned (OpenSpec.upto walAppendSpecSpec)

/-- 'assizelaw35.WalSyncSpec', WHERE WHAT IT READS IS OF BULK AT MOST 1048576: true; the input reads as it did. -/
def walSyncSpecUptoRow : OpenClaim := { program := "ytocjhepiooljpaa", sum := "cd3590f8b2055264533925637ee996a6f508bc4706b426e89ed0a58c548c893c", func := "assize/assizelaw35.WalSyncSpec", spec := "walSyncSpec", unfollowed := true, recurses := true, apart := false, narrowed := true }
def WalSyncSpecUptoSaid : Prop := walSyncSpecUptoRow.holds Try.pinned (OpenSpec.upto walSyncSpecSpec)

/-- 'assizelaw35.WalRoom', WHERE WHAT IT READS IS OF BULK AT MOST 1048576: true; the input reads as it did. -/
def walRoomUptoRow : OpenClaim := { program := "ytocjhepiooljpaa", sum := "cd3590f8b2055264533925637ee996a6f508bc4706b426e89ed0a58c548c893c", func := "assize/assizelaw35.WalRoom", spec := "walRoom", unfollowed := true, recurses := true, apart := false, narrowed := true }
def WalRoomUptoSaid : Prop := walRoomUptoRow.holds Try.pinned (OpenSpec.upto walRoomSpec)

/-- 'assizelaw35.WalDamage', WHERE WHAT IT READS IS OF BULK AT MOST 1048576: true; the input reads as it did. -/
def walDamageUptoRow : OpenClaim := { program := "ytocjhepiooljpaa", sum := "cd3590f8b2055264533925637ee996a6f508bc4706b426e89ed0a58c548c893c", func := "assize/assizelaw35.WalDamage", spec := "walDamage", unfollowed := true, recurses := true, apart := false, narrowed := true }
def WalDamageUptoSaid : Prop := walDamageUptoRow.holds Try.pinned (OpenSpec.upto walDamageSpec)

/-- 'assizelaw35.WalSteps', WHERE WHAT IT READS IS OF BULK AT MOST 1048576: true; the input reads as it did. -/
def walStepsUptoRow : OpenClaim := { program := "ytocjhepiooljpaa", sum := "cd3590f8b2055264533925637ee996a6f508bc4706b426e89ed0a58c548c893c", func := "assize/assizelaw35.WalSteps", spec := "walSteps", unfollowed := true, recurses := true, apart := false, narrowed := true }
def WalStepsUptoSaid : Prop := walStepsUptoRow.holds Try.pinned (OpenSpec.upto walStepsSpec)

/-- 'assizelaw35.WalSurvives', WHERE WHAT IT READS IS OF BULK AT MOST 1048576: true; the input reads as it did. -/
def walSurvivesUptoRow : OpenClaim := { program := "ytocjhepiooljpaa", sum := "cd3590f8b2055264533925637ee996a6f508bc4706b426e89ed0a58c548c893c", func := "assize/assizelaw35.WalSurvives", spec := "walSurvives", unfollowed := true, recurses := true, apart := false, narrowed := true }
def WalSurvivesUptoSaid : Prop := walSurvivesUptoRow.holds Try.pinned (OpenSpec.upto walSurvivesSpec)

end Rows
end Go.Proofs.Ytocjhepiooljpaa
