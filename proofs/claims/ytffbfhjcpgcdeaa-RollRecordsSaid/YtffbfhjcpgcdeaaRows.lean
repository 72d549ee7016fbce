/-
  No cell of these rows narrows 'for every input' (looked for: loops, veiled, ifaces, maps, wideKeys, modest, calm, conditions, laid).
  DERIVED. THE GIVEN ROWS OF THIS SEAT. 13 by the template 'for every input the law returns true; each argument reads behind the call as it read before'; 0 by the template 'total and deterministic' (their statements: YtffbfhjcpgcdeaaTotals.lean).
  GIVEN WITH THE SEED: the statements are not yours to turn. If you find one false, say at which input.
  Laid BY PROGRAM, IN A SANDBOX (cutbox-rows.mjs): the forced cells as the released guide's own fill.sh prints them over the translation fec9ee50622a53ee… (all of the seat's roots in one cut). By AI agents, Wed Nov 11 2026. No macro, syntax, notation, axiom, sorry.
-/
import Derived.Test.YtffbfhjcpgcdeaaChecked
import GoSem.Claim
import GoSem.ClaimJoined
import GoSem.ClaimMapViews
import Derived.JoinedTies
import Derived.KernelRfl
namespace Go.Proofs.Ytffbfhjcpgcdeaa
/- THE CELL 'sum', in the pinned program and in every row, IS THE sha256 OF THE DUMP (.gsa) THAT YtffbfhjcpgcdeaaProg.lean LOADS. Nothing in Lean hashes anything: it is a label: what it is worth is what the hold of that sum in a sandbox is worth. -/
noncomputable def Try.pinned : Pinned := { name := "ytffbfhjcpgcdeaa", sum := "fec9ee50622a53ee4f93a7beb231b32994584b83bce5877afd677308c8bb2b86", checked := Try.checked }
namespace Rows
def none {H : Type} : Left H := { results := [], args := [] }

/-- 'linoleumlaw07.RollFits': WHATEVER THE INPUT: true; the input reads as it did. -/
def rollFitsSpec : ChangeSpec := { name := "rollFits", fn := fun _ => fun
  | [d1, d2, d3] => { results := [.lit (.bool true)], args := [d1, d2, d3] }
  | _ => none }
def rollFitsRow : OpenClaim := { program := "ytffbfhjcpgcdeaa", sum := "fec9ee50622a53ee4f93a7beb231b32994584b83bce5877afd677308c8bb2b86", func := "linoleum/linoleumlaw07.RollFits", spec := "rollFits", unfollowed := true, recurses := true, apart := false }
def RollFitsSaid : Prop := rollFitsRow.holds Try.pinned (OpenSpec.ofChange rollFitsSpec)

/-- ITS FALSE NEIGHBOUR: 'it returns false'. Refute it at one input. -/
def rollFitsWrong : ChangeSpec := { name := "rollFits", fn := fun _ => fun
  | [d1, d2, d3] => { results := [.lit (.bool false)], args := [d1, d2, d3] }
  | _ => none }
def RollFitsWrongFalsely : Prop := rollFitsRow.holds Try.pinned (OpenSpec.ofChange rollFitsWrong)

/-- 'linoleumlaw07.RollGrades': WHATEVER THE INPUT: true; the input reads as it did. -/
def rollGradesSpec : ChangeSpec := { name := "rollGrades", fn := fun _ => fun
  | [d1, d2] => { results := [.lit (.bool true)], args := [d1, d2] }
  | _ => none }
def rollGradesRow : OpenClaim := { program := "ytffbfhjcpgcdeaa", sum := "fec9ee50622a53ee4f93a7beb231b32994584b83bce5877afd677308c8bb2b86", func := "linoleum/linoleumlaw07.RollGrades", spec := "rollGrades", unfollowed := true, recurses := true, apart := false }
def RollGradesSaid : Prop := rollGradesRow.holds Try.pinned (OpenSpec.ofChange rollGradesSpec)

/-- ITS FALSE NEIGHBOUR: 'it returns false'. Refute it at one input. -/
def rollGradesWrong : ChangeSpec := { name := "rollGrades", fn := fun _ => fun
  | [d1, d2] => { results := [.lit (.bool false)], args := [d1, d2] }
  | _ => none }
def RollGradesWrongFalsely : Prop := rollGradesRow.holds Try.pinned (OpenSpec.ofChange rollGradesWrong)

/-- 'linoleumlaw07.RollPlaces': WHATEVER THE INPUT: true; the input reads as it did. -/
def rollPlacesSpec : ChangeSpec := { name := "rollPlaces", fn := fun _ => fun
  | [d1, d2, d3] => { results := [.lit (.bool true)], args := [d1, d2, d3] }
  | _ => none }
def rollPlacesRow : OpenClaim := { program := "ytffbfhjcpgcdeaa", sum := "fec9ee50622a53ee4f93a7beb231b32994584b83bce5877afd677308c8bb2b86", func := "linoleum/linoleumlaw07.RollPlaces", spec := "rollPlaces", unfollowed := true, recurses := true, apart := false }
def RollPlacesSaid : Prop := rollPlacesRow.holds Try.pinned (OpenSpec.ofChange rollPlacesSpec)

/-- ITS FALSE NEIGHBOUR: 'it returns false'. Refute it at one input. -/
def rollPlacesWrong : ChangeSpec := { name := "rollPlaces", fn := fun _ => fun
  | [d1, d2, d3] => { results := [.lit (.bool false)], args := [d1, d2, d3] }
  | _ => none }
def RollPlacesWrongFalsely : Prop := rollPlacesRow.holds Try.pinned (OpenSpec.ofChange rollPlacesWrong)

/-- 'linoleumlaw07.RollWorths': WHATEVER THE INPUT: true; the input reads as it did. -/
def rollWorthsSpec : ChangeSpec := { name := "rollWorths", fn := fun _ => fun
  | [d1, d2] => { results := [.lit (.bool true)], args := [d1, d2] }
  | _ => none }
def rollWorthsRow : OpenClaim := { program := "ytffbfhjcpgcdeaa", sum := "fec9ee50622a53ee4f93a7beb231b32994584b83bce5877afd677308c8bb2b86", func := "linoleum/linoleumlaw07.RollWorths", spec := "rollWorths", unfollowed := true, recurses := true, apart := false }
def RollWorthsSaid : Prop := rollWorthsRow.holds Try.pinned (OpenSpec.ofChange rollWorthsSpec)

/-- ITS FALSE NEIGHBOUR: 'it returns false'. Refute it at one input. -/
def rollWorthsWrong : ChangeSpec := { name := "rollWorths", fn := fun _ => fun
  | [d1, d2] => { results := [.lit (.bool false)], args := [d1, d2] }
  | _ => none }
def RollWorthsWrongFalsely : Prop := rollWorthsRow.holds Try.pinned (OpenSpec.ofChange rollWorthsWrong)

/-- 'linoleumlaw07.RollBounds': WHATEVER THE INPUT: true; the input reads as it did. -/
def rollBoundsSpec : ChangeSpec := { name := "rollBounds", fn := fun _ => fun
  | [d1, d2, d3] => { results := [.lit (.bool true)], args := [d1, d2, d3] }
  | _ => none }
def rollBoundsRow : OpenClaim := { program := "ytffbfhjcpgcdeaa", sum := "fec9ee50622a53ee4f93a7beb231b32994584b83bce5877afd677308c8bb2b86", func := "linoleum/linoleumlaw07.RollBounds", spec := "rollBounds", unfollowed := true, recurses := true, apart := false }
def RollBoundsSaid : Prop := rollBoundsRow.holds Try.pinned (OpenSpec.ofChange rollBoundsSpec)

/-- ITS FALSE NEIGHBOUR: 'it returns false'. Refute it at one input. -/
def rollBoundsWrong : ChangeSpec := { name := "rollBounds", fn := fun _ => fun
  | [d1, d2, d3] => { results := [.lit (.bool false)], args := [d1, d2, d3] }
  | _ => none }
def RollBoundsWrongFalsely : Prop := rollBoundsRow.holds Try.pinned (OpenSpec.ofChange rollBoundsWrong)

/-- 'linoleumlaw07.RollChecks': WHATEVER THE INPUT: true; the input reads as it did. -/
def rollChecksSpec : ChangeSpec := { name := "rollChecks", fn := fun _ => fun
  | [d1, d2, d3] => { results := [.lit (.bool true)], args := [d1, d2, d3] }
  | _ => none }
def rollChecksRow : OpenClaim := { program := "ytffbfhjcpgcdeaa", sum := "fec9ee50622a53ee4f93a7beb231b32994584b83bce5877afd677308c8bb2b86", func := "linoleum/linoleumlaw07.RollChecks", spec := "rollChecks", unfollowed := true, recurses := true, apart := false }
def RollChecksSaid : Prop := rollChecksRow.holds Try.pinned (OpenSpec.ofChange rollChecksSpec)

/-- ITS FALSE NEIGHBOUR: 'it returns false'. Refute it at one input. -/
def rollChecksWrong : ChangeSpec := { name := "rollChecks", fn := fun _ => fun
  | [d1, d2, d3] => { results := [.lit (.bool false)], args := [d1, d2, d3] }
  | _ => none }
def RollChecksWrongFalsely : Prop := rollChecksRow.holds Try.pinned (OpenSpec.ofChange rollChecksWrong)

/-- 'linoleumlaw07.RollPotentials': WHATEVER THE INPUT: true; the input reads as it did. -/
def rollPotentialsSpec : ChangeSpec := { name := "rollPotentials", fn := fun _ => fun
  | [d1, d2] => { results := [.lit (.bool true)], args := [d1, d2] }
  | _ => none }
def rollPotentialsRow : OpenClaim := { program := "ytffbfhjcpgcdeaa", sum := "fec9ee50622a53ee4f93a7beb231b32994584b83bce5877afd677308c8bb2b86", func := "linoleum/linoleumlaw07.RollPotentials", spec := "rollPotentials", unfollowed := true, recurses := true, apart := false }
def RollPotentialsSaid : Prop := rollPotentialsRow.holds Try.pinned (OpenSpec.ofChange rollPotentialsSpec)

/-- ITS FALSE NEIGHBOUR: 'it returns false'. Refute it at one input. -/
def rollPotentialsWrong : ChangeSpec := { name := "rollPotentials", fn := fun _ => fun
  | [d1, d2] => { results := [.lit (.bool false)], args := [d1, d2] }
  | _ => none }
def RollPotentialsWrongFalsely : Prop := rollPotentialsRow.holds Try.pinned (OpenSpec.ofChange rollPotentialsWrong)

/-- 'linoleumlaw07.RollWaste': WHATEVER THE INPUT: true; the input reads as it did. -/
def rollWasteSpec : ChangeSpec := { name := "rollWaste", fn := fun _ => fun
  | [d1, d2, d3] => { results := [.lit (.bool true)], args := [d1, d2, d3] }
  | _ => none }
def rollWasteRow : OpenClaim := { program := "ytffbfhjcpgcdeaa", sum := "fec9ee50622a53ee4f93a7beb231b32994584b83bce5877afd677308c8bb2b86", func := "linoleum/linoleumlaw07.RollWaste", spec := "rollWaste", unfollowed := true, recurses := true, apart := false }
def RollWasteSaid : Prop := rollWasteRow.holds Try.pinned (OpenSpec.ofChange rollWasteSpec)

/-- ITS FALSE NEIGHBOUR: 'it returns false'. Refute it at one input. -/
def rollWasteWrong : ChangeSpec := { name := "rollWaste", fn := fun _ => fun
  | [d1, d2, d3] => { results := [.lit (.bool false)], args := [d1, d2, d3] }
  | _ => none }
def RollWasteWrongFalsely : Prop := rollWasteRow.holds Try.pinned (OpenSpec.ofChange rollWasteWrong)

/-- 'linoleumlaw07.RollSplits': WHATEVER THE INPUT: true; the input reads as it did. -/
def rollSplitsSpec : ChangeSpec := { name := "rollSplits", fn := fun _ => fun
  | [d1, d2, d3] => { results := [.lit (.bool true)], args := [d1, d2, d3] }
  | _ => none }
def rollSplitsRow : OpenClaim := { program := "ytffbfhjcpgcdeaa", sum := "fec9ee50622a53ee4f93a7beb231b32994584b83bce5877afd677308c8bb2b86", func := "linoleum/linoleumlaw07.RollSplits", spec := "rollSplits", unfollowed := true, recurses := true, apart := false }
def RollSplitsSaid : Prop := rollSplitsRow.holds Try.pinned (OpenSpec.ofChange rollSplitsSpec)

/-- ITS FALSE NEIGHBOUR: 'it returns false'. Refute it at one input. -/
def rollSplitsWrong : ChangeSpec := { name := "rollSplits", fn := fun _ => fun
  | [d1, d2, d3] => { results := [.lit (.bool false)], args := [d1, d2, d3] }
  | _ => none }
def RollSplitsWrongFalsely : Prop := rollSplitsRow.holds Try.pinned (OpenSpec.ofChange rollSplitsWrong)

/-- 'linoleumlaw07.RollRecords': WHATEVER THE INPUT: true; the input reads as it did. -/
def rollRecordsSpec : ChangeSpec := { name := "rollRecords", fn := fun _ => fun
  | [d1, d2, d3] => { results := [.lit (.bool true)], args := [d1, d2, d3] }
  | _ => none }
def rollRecordsRow : OpenClaim := { program := "ytffbfhjcpgcdeaa", sum := "fec9ee50622a53ee4f93a7beb231b32994584b83bce5877afd677308c8bb2b86", func := "linoleum/linoleumlaw07.RollRecords", spec := "rollRecords", unfollowed := true, recurses := true, apart := false }
def RollRecordsSaid : Prop := rollRecordsRow.holds Try.pinned (OpenSpec.ofChange rollRecordsSpec)

/-- ITS FALSE NEIGHBOUR: 'it returns false'. Refute it at one input. -/
def rollRecordsWrong : ChangeSpec := { name := "rollRecords", fn := fun _ => fun
  | [d1, d2, d3] => { results := [.lit (.bool false)], args := [d1, d2, d3] }
  | _ => none }
def RollRecordsWrongFalsely : Prop := rollRecordsRow.holds Try.pinned (OpenSpec.ofChange rollRecordsWrong)

/-- 'linoleumlaw07.RollBoundHolds': WHATEVER THE INPUT: true; the input reads as it did. -/
def rollBoundHoldsSpec : ChangeSpec := { name := "rollBoundHolds", fn := fun _ => fun
  | [d1, d2, d3] => { results := [.lit (.bool true)], args := [d1, d2, d3] }
  | _ => none }
def rollBoundHoldsRow : OpenClaim := { program := "ytffbfhjcpgcdeaa", sum := "fec9ee50622a53ee4f93a7beb231b32994584b83bce5877afd677308c8bb2b86", func := "linoleum/linoleumlaw07.RollBoundHolds", spec := "rollBoundHolds", unfollowed := true, recurses := true, apart := false }
def RollBoundHoldsSaid : Prop := rollBoundHoldsRow.holds Try.pinned (OpenSpec.ofChange rollBoundHoldsSpec)

/-- ITS FALSE NEIGHBOUR: 'it returns false'. Refute it at one input. -/
def rollBoundHoldsWrong : ChangeSpec := { name := "rollBoundHolds", fn := fun _ => fun
  | [d1, d2, d3] => { results := [.lit (.bool false)], args := [d1, d2, d3] }
  | _ => none }
def RollBoundHoldsWrongFalsely : Prop := rollBoundHoldsRow.holds Try.pinned (OpenSpec.ofChange rollBoundHoldsWrong)

/-- 'linoleumlaw07.RollGreedy': WHATEVER THE INPUT: true; the input reads as it did. -/
def rollGreedySpec : ChangeSpec := { name := "rollGreedy", fn := fun _ => fun
  | [d1, d2] => { results := [.lit (.bool true)], args := [d1, d2] }
  | _ => none }
def rollGreedyRow : OpenClaim := { program := "ytffbfhjcpgcdeaa", sum := "fec9ee50622a53ee4f93a7beb231b32994584b83bce5877afd677308c8bb2b86", func := "linoleum/linoleumlaw07.RollGreedy", spec := "rollGreedy", unfollowed := true, recurses := true, apart := false }
def RollGreedySaid : Prop := rollGreedyRow.holds Try.pinned (OpenSpec.ofChange rollGreedySpec)

/-- ITS FALSE NEIGHBOUR: 'it returns false'. Refute it at one input. -/
def rollGreedyWrong : ChangeSpec := { name := "rollGreedy", fn := fun _ => fun
  | [d1, d2] => { results := [.lit (.bool false)], args := [d1, d2] }
  | _ => none }
def RollGreedyWrongFalsely : Prop := rollGreedyRow.holds Try.pinned (OpenSpec.ofChange rollGreedyWrong)

/-- 'linoleumtop.TopRolls': WHATEVER THE INPUT: true; the input reads as it did. -/
def topRollsSpec : ChangeSpec := { name := "topRolls", fn := fun _ => fun
  | [d1, d2, d3] => { results := [.lit (.bool true)], args := [d1, d2, d3] }
  | _ => none }
def topRollsRow : OpenClaim := { program := "ytffbfhjcpgcdeaa", sum := "fec9ee50622a53ee4f93a7beb231b32994584b83bce5877afd677308c8bb2b86", func := "linoleum/linoleumtop.TopRolls", spec := "topRolls", unfollowed := true, recurses := true, apart := false }
def TopRollsSaid : Prop := topRollsRow.holds Try.pinned (OpenSpec.ofChange topRollsSpec)

/-- ITS FALSE NEIGHBOUR: 'it returns false'. Refute it at one input. -/
def topRollsWrong : ChangeSpec := { name := "topRolls", fn := fun _ => fun
  | [d1, d2, d3] => { results := [.lit (.bool false)], args := [d1, d2, d3] }
  | _ => none }
def TopRollsWrongFalsely : Prop := topRollsRow.holds Try.pinned (OpenSpec.ofChange topRollsWrong)

/- THE SECOND FORM. 'bulk': how many values and letters a reading holds, each counted each time it is reached (what is shared counts as often as it is met; a slice's spare places count too). A statement '..UptoSaid' is the law's where the arguments, and the package variables that the reading takes, are together of bulk at most 1048576: NARROWER than '..Said'. Prove '..Said' where nothing that the law and all that it calls make is longer than what came in: it says more and counts as full. Else prove '..UptoSaid'. A law counts once. -/
mutual
def uptoBulk {H : Type} : DataW H → Nat
  | .lit (.string bytes) => bytes.length + 1
  | .lit _ => 1
  | .nil => 1
  | .ptr d => uptoBulk d + 1
  | .slice elems spare => uptoBulkAll elems + uptoBulkAll spare + 1
  | .agg parts => uptoBulkAll parts + 1
  | .iface _ d => uptoBulk d + 1
  | .map entries => uptoBulkEntries entries + 1
  | .held _ => 1
def uptoBulkAll {H : Type} : List (DataW H) → Nat
  | [] => 0
  | d :: r => uptoBulk d + uptoBulkAll r
def uptoBulkEntries {H : Type} : List (Lit × DataW H) → Nat
  | [] => 0
  | x :: r => uptoBulkEntry x + uptoBulkEntries r
def uptoBulkEntry {H : Type} : Lit × DataW H → Nat
  | (.string bytes, d) => bytes.length + uptoBulk d + 1
  | (_, d) => uptoBulk d + 1
 end
def uptoSmall : (H : Type) → List (DataW H) → Bool := fun _ ds => decide (uptoBulkAll ds ≤ 1048576)
def OpenSpec.upto (s : _root_.Go.ChangeSpec) : _root_.Go.OpenSpec := { _root_.Go.OpenSpec.ofChange s with cond := some uptoSmall }

/-- 'linoleumlaw07.RollFits', WHERE WHAT IT READS IS OF BULK AT MOST 1048576: true; the input reads as it did. -/
def rollFitsUptoRow : OpenClaim := { program := "ytffbfhjcpgcdeaa", sum := "fec9ee50622a53ee4f93a7beb231b32994584b83bce5877afd677308c8bb2b86", func := "linoleum/linoleumlaw07.RollFits", spec := "rollFits", unfollowed := true, recurses := true, apart := false, narrowed := true }
def RollFitsUptoSaid : Prop := rollFitsUptoRow.holds Try.pinned (OpenSpec.upto rollFitsSpec)

/-- 'linoleumlaw07.RollGrades', WHERE WHAT IT READS IS OF BULK AT MOST 1048576: true; the input reads as it did. -/
def rollGradesUptoRow : OpenClaim := { program := "ytffbfhjcpgcdeaa", sum := "fec9ee50622a53ee4f93a7beb231b32994584b83bce5877afd677308c8bb2b86", func := "linoleum/linoleumlaw07.RollGrades", spec := "rollGrades", unfollowed := true, recurses := true, apart := false, narrowed := true }
def RollGradesUptoSaid : Prop := rollGradesUptoRow.holds Try.pinned (OpenSpec.upto rollGradesSpec)

/-- 'linoleumlaw07.RollPlaces', WHERE WHAT IT READS IS OF BULK AT MOST 1048576: true; the input reads as it did. -/
def rollPlacesUptoRow : OpenClaim := { program := "ytffbfhjcpgcdeaa", sum := "fec9ee50622a53ee4f93a7beb231b32994584b83bce5877afd677308c8bb2b86", func := "linoleum/linoleumlaw07.RollPlaces", spec := "rollPlaces", unfollowed := true, recurses := true, apart := false, narrowed := true }
def RollPlacesUptoSaid : Prop := rollPlacesUptoRow.holds Try.pinned (OpenSpec.upto rollPlacesSpec)

/-- 'linoleumlaw07.RollWorths', WHERE WHAT IT READS IS OF BULK AT MOST 1048576: true; the input reads as it did. -/
def rollWorthsUptoRow : OpenClaim := { program := "ytffbfhjcpgcdeaa", sum := "fec9ee50622a53ee4f93a7beb231b32994584b83bce5877afd677308c8bb2b86", func := "linoleum/linoleumlaw07.RollWorths", spec := "rollWorths", unfollowed := true, recurses := true, apart := false, narrowed := true }
def RollWorthsUptoSaid : Prop := rollWorthsUptoRow.holds Try.pinned (OpenSpec.upto rollWorthsSpec)

/-- 'linoleumlaw07.RollBounds', WHERE WHAT IT READS IS OF BULK AT MOST 1048576: true; the input reads as it did. -/
def rollBoundsUptoRow : OpenClaim := { program := "ytffbfhjcpgcdeaa", sum := "fec9ee50622a53ee4f93a7beb231b32994584b83bce5877afd677308c8bb2b86", func := "linoleum/linoleumlaw07.RollBounds", spec := "rollBounds", unfollowed := true, recurses := true, apart := false, narrowed := true }
def RollBoundsUptoSaid : Prop := rollBoundsUptoRow.holds Try.pinned (OpenSpec.upto rollBoundsSpec)

/-- 'linoleumlaw07.RollChecks', WHERE WHAT IT READS IS OF BULK AT MOST 1048576: true; the input reads as it did. -/
def rollChecksUptoRow : OpenClaim := { program := "ytffbfhjcpgcdeaa", sum := "fec9ee50622a53ee4f93a7beb231b32994584b83bce5877afd677308c8bb2b86", func := "linoleum/linoleumlaw07.RollChecks", spec := "rollChecks", unfollowed := true, recurses := true, apart := false, narrowed := true }
def RollChecksUptoSaid : Prop := rollChecksUptoRow.holds Try.pinned (OpenSpec.upto rollChecksSpec)

/-- 'linoleumlaw07.RollPotentials', WHERE WHAT IT READS IS OF BULK AT MOST 1048576: true; the input reads as it did. -/
def rollPotentialsUptoRow : OpenClaim := { program := "ytffbfhjcpgcdeaa", sum := "fec9ee50622a53ee4f93a7beb231b32994584b83bce5877afd677308c8bb2b86", func := "linoleum/linoleumlaw07.RollPotentials", spec := "rollPotentials", unfollowed := true, recurses := true, apart := false, narrowed := true }
def RollPotentialsUptoSaid : Prop := rollPotentialsUptoRow.holds Try.pinned (OpenSpec.upto rollPotentialsSpec)

/-- 'linoleumlaw07.RollWaste', WHERE WHAT IT READS IS OF BULK AT MOST 1048576: true; the input reads as it did. -/
def rollWasteUptoRow : OpenClaim := { program := "ytffbfhjcpgcdeaa", sum := "fec9ee50622a53ee4f93a7beb231b32994584b83bce5877afd677308c8bb2b86", func := "linoleum/linoleumlaw07.RollWaste", spec := "rollWaste", unfollowed := true, recurses := true, apart := false, narrowed := true }
def RollWasteUptoSaid : Prop := rollWasteUptoRow.holds Try.pinned (OpenSpec.upto rollWasteSpec)

/-- 'linoleumlaw07.RollSplits', WHERE WHAT IT READS IS OF BULK AT MOST 1048576: true; the input reads as it did. -/
def rollSplitsUptoRow : OpenClaim := { program := "ytffbfhjcpgcdeaa", sum := "fec9ee50622a53ee4f93a7beb231b32994584b83bce5877afd677308c8bb2b86", func := "linoleum/linoleumlaw07.RollSplits", spec := "rollSplits", unfollowed := true, recurses := true, apart := false, narrowed := true }
def RollSplitsUptoSaid : Prop := rollSplitsUptoRow.holds Try.pinned (OpenSpec.upto rollSplitsSpec)

/-- 'linoleumlaw07.RollRecords', WHERE WHAT IT READS IS OF BULK AT MOST 1048576: true; the input reads as it did. -/
def rollRecordsUptoRow : OpenClaim := { program := "ytffbfhjcpgcdeaa", sum := "fec9ee50622a53ee4f93a7beb231b32994584b83bce5877afd677308c8bb2b86", func := "linoleum/linoleumlaw07.RollRecords", spec := "rollRecords", unfollowed := true, recurses := true, apart := false, narrowed := true }
def RollRecordsUptoSaid : Prop := rollRecordsUptoRow.holds Try.pinned (OpenSpec.upto rollRecordsSpec)

/-- 'linoleumlaw07.RollBoundHolds', WHERE WHAT IT READS IS OF BULK AT MOST 1048576: true; the input reads as it did. -/
def rollBoundHoldsUptoRow : OpenClaim := { program := "ytffbfhjcpgcdeaa", sum := "fec9ee50622a53ee4f93a7beb231b32994584b83bce5877afd677308c8bb2b86", func := "linoleum/linoleumlaw07.RollBoundHolds", spec := "rollBoundHolds", unfollowed := true, recurses := true, apart := false, narrowed := true }
def RollBoundHoldsUptoSaid : Prop := rollBoundHoldsUptoRow.holds Try.pinned (OpenSpec.upto rollBoundHoldsSpec)

/-- 'linoleumlaw07.RollGreedy', WHERE WHAT IT READS IS OF BULK AT MOST 1048576: true; the input reads as it did. -/
def rollGreedyUptoRow : OpenClaim := { program := "ytffbfhjcpgcdeaa", sum := "fec9ee50622a53ee4f93a7beb231b32994584b83bce5877afd677308c8bb2b86", func := "linoleum/linoleumlaw07.RollGreedy", spec := "rollGreedy", unfollowed := true, recurses := true, apart := false, narrowed := true }
def RollGreedyUptoSaid : Prop := rollGreedyUptoRow.holds Try.pinned (OpenSpec.upto rollGreedySpec)

/-- 'linoleumtop.TopRolls', WHERE WHAT IT READS IS OF BULK AT MOST 1048576: true; the input reads as it did. -/
def topRollsUptoRow : OpenClaim := { program := "ytffbfhjcpgcdeaa", sum := "fec9ee50622a53ee4f93a7beb231b32994584b83bce5877afd677308c8bb2b86", func := "linoleum/linoleumtop.TopRolls", spec := "topRolls", unfollowed := true, recurses := true, apart := false, narrowed := true }
def TopRollsUptoSaid : Prop := topRollsUptoRow.holds Try.pinned (OpenSpec.upto topRollsSpec)

end Rows
end Go.Proofs.Ytffbfhjcpgcdeaa
