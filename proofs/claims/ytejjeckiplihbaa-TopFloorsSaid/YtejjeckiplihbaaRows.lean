/-
  No cell of these rows narrows 'for every input' (looked for: loops, veiled, ifaces, maps, wideKeys, modest, calm, conditions, laid).
  DERIVED. THE GIVEN ROWS OF THIS SEAT. 13 by the template 'for every input the law returns true; each argument reads behind the call as it read before'; 0 by the template 'total and deterministic' (their statements: YtejjeckiplihbaaTotals.lean).
  GIVEN WITH THE SEED: the statements are not yours to turn. If you find one false, say at which input.
  Laid BY PROGRAM, IN A SANDBOX (cutbox-rows.mjs): the forced cells as the released guide's own fill.sh prints them over the translation 197ee14a643da2f5… (all of the seat's roots in one cut). By AI agents, Wed Nov 11 2026. No macro, syntax, notation, axiom, sorry.
-/
import Derived.Test.YtejjeckiplihbaaChecked
import GoSem.Claim
import GoSem.ClaimJoined
import GoSem.ClaimMapViews
import Derived.JoinedTies
import Derived.KernelRfl
namespace Go.Proofs.Ytejjeckiplihbaa
/- THE CELL 'sum', in the pinned program and in every row, IS THE sha256 OF THE DUMP (.gsa) THAT YtejjeckiplihbaaProg.lean LOADS. Nothing in Lean hashes anything: it is a label: what it is worth is what the hold of that sum in a sandbox is worth. -/
noncomputable def Try.pinned : Pinned := { name := "ytejjeckiplihbaa", sum := "197ee14a643da2f5ca6cad369640b9a7d8e27e74652e38bb769c73c88d365b26", checked := Try.checked }
namespace Rows
def none {H : Type} : Left H := { results := [], args := [] }

/-- 'linoleumlaw08.FloorMoves': WHATEVER THE INPUT: true; the input reads as it did. -/
def floorMovesSpec : ChangeSpec := { name := "floorMoves", fn := fun _ => fun
  | [d1, d2, d3] => { results := [.lit (.bool true)], args := [d1, d2, d3] }
  | _ => none }
def floorMovesRow : OpenClaim := { program := "ytejjeckiplihbaa", sum := "197ee14a643da2f5ca6cad369640b9a7d8e27e74652e38bb769c73c88d365b26", func := "linoleum/linoleumlaw08.FloorMoves", spec := "floorMoves", unfollowed := true, recurses := true, apart := false }
def FloorMovesSaid : Prop := floorMovesRow.holds Try.pinned (OpenSpec.ofChange floorMovesSpec)

/-- ITS FALSE NEIGHBOUR: 'it returns false'. Refute it at one input. -/
def floorMovesWrong : ChangeSpec := { name := "floorMoves", fn := fun _ => fun
  | [d1, d2, d3] => { results := [.lit (.bool false)], args := [d1, d2, d3] }
  | _ => none }
def FloorMovesWrongFalsely : Prop := floorMovesRow.holds Try.pinned (OpenSpec.ofChange floorMovesWrong)

/-- 'linoleumlaw08.FloorNext': WHATEVER THE INPUT: true; the input reads as it did. -/
def floorNextSpec : ChangeSpec := { name := "floorNext", fn := fun _ => fun
  | [d1, d2] => { results := [.lit (.bool true)], args := [d1, d2] }
  | _ => none }
def floorNextRow : OpenClaim := { program := "ytejjeckiplihbaa", sum := "197ee14a643da2f5ca6cad369640b9a7d8e27e74652e38bb769c73c88d365b26", func := "linoleum/linoleumlaw08.FloorNext", spec := "floorNext", unfollowed := true, recurses := true, apart := false }
def FloorNextSaid : Prop := floorNextRow.holds Try.pinned (OpenSpec.ofChange floorNextSpec)

/-- ITS FALSE NEIGHBOUR: 'it returns false'. Refute it at one input. -/
def floorNextWrong : ChangeSpec := { name := "floorNext", fn := fun _ => fun
  | [d1, d2] => { results := [.lit (.bool false)], args := [d1, d2] }
  | _ => none }
def FloorNextWrongFalsely : Prop := floorNextRow.holds Try.pinned (OpenSpec.ofChange floorNextWrong)

/-- 'linoleumlaw08.FloorRooms': WHATEVER THE INPUT: true; the input reads as it did. -/
def floorRoomsSpec : ChangeSpec := { name := "floorRooms", fn := fun _ => fun
  | [d1, d2, d3] => { results := [.lit (.bool true)], args := [d1, d2, d3] }
  | _ => none }
def floorRoomsRow : OpenClaim := { program := "ytejjeckiplihbaa", sum := "197ee14a643da2f5ca6cad369640b9a7d8e27e74652e38bb769c73c88d365b26", func := "linoleum/linoleumlaw08.FloorRooms", spec := "floorRooms", unfollowed := true, recurses := true, apart := false }
def FloorRoomsSaid : Prop := floorRoomsRow.holds Try.pinned (OpenSpec.ofChange floorRoomsSpec)

/-- ITS FALSE NEIGHBOUR: 'it returns false'. Refute it at one input. -/
def floorRoomsWrong : ChangeSpec := { name := "floorRooms", fn := fun _ => fun
  | [d1, d2, d3] => { results := [.lit (.bool false)], args := [d1, d2, d3] }
  | _ => none }
def FloorRoomsWrongFalsely : Prop := floorRoomsRow.holds Try.pinned (OpenSpec.ofChange floorRoomsWrong)

/-- 'linoleumlaw08.FloorCovers': WHATEVER THE INPUT: true; the input reads as it did. -/
def floorCoversSpec : ChangeSpec := { name := "floorCovers", fn := fun _ => fun
  | [d1, d2, d3] => { results := [.lit (.bool true)], args := [d1, d2, d3] }
  | _ => none }
def floorCoversRow : OpenClaim := { program := "ytejjeckiplihbaa", sum := "197ee14a643da2f5ca6cad369640b9a7d8e27e74652e38bb769c73c88d365b26", func := "linoleum/linoleumlaw08.FloorCovers", spec := "floorCovers", unfollowed := true, recurses := true, apart := false }
def FloorCoversSaid : Prop := floorCoversRow.holds Try.pinned (OpenSpec.ofChange floorCoversSpec)

/-- ITS FALSE NEIGHBOUR: 'it returns false'. Refute it at one input. -/
def floorCoversWrong : ChangeSpec := { name := "floorCovers", fn := fun _ => fun
  | [d1, d2, d3] => { results := [.lit (.bool false)], args := [d1, d2, d3] }
  | _ => none }
def FloorCoversWrongFalsely : Prop := floorCoversRow.holds Try.pinned (OpenSpec.ofChange floorCoversWrong)

/-- 'linoleumlaw08.FloorStrips': WHATEVER THE INPUT: true; the input reads as it did. -/
def floorStripsSpec : ChangeSpec := { name := "floorStrips", fn := fun _ => fun
  | [d1, d2] => { results := [.lit (.bool true)], args := [d1, d2] }
  | _ => none }
def floorStripsRow : OpenClaim := { program := "ytejjeckiplihbaa", sum := "197ee14a643da2f5ca6cad369640b9a7d8e27e74652e38bb769c73c88d365b26", func := "linoleum/linoleumlaw08.FloorStrips", spec := "floorStrips", unfollowed := true, recurses := true, apart := false }
def FloorStripsSaid : Prop := floorStripsRow.holds Try.pinned (OpenSpec.ofChange floorStripsSpec)

/-- ITS FALSE NEIGHBOUR: 'it returns false'. Refute it at one input. -/
def floorStripsWrong : ChangeSpec := { name := "floorStrips", fn := fun _ => fun
  | [d1, d2] => { results := [.lit (.bool false)], args := [d1, d2] }
  | _ => none }
def FloorStripsWrongFalsely : Prop := floorStripsRow.holds Try.pinned (OpenSpec.ofChange floorStripsWrong)

/-- 'linoleumlaw08.FloorOffsets': WHATEVER THE INPUT: true; the input reads as it did. -/
def floorOffsetsSpec : ChangeSpec := { name := "floorOffsets", fn := fun _ => fun
  | [d1, d2] => { results := [.lit (.bool true)], args := [d1, d2] }
  | _ => none }
def floorOffsetsRow : OpenClaim := { program := "ytejjeckiplihbaa", sum := "197ee14a643da2f5ca6cad369640b9a7d8e27e74652e38bb769c73c88d365b26", func := "linoleum/linoleumlaw08.FloorOffsets", spec := "floorOffsets", unfollowed := true, recurses := true, apart := false }
def FloorOffsetsSaid : Prop := floorOffsetsRow.holds Try.pinned (OpenSpec.ofChange floorOffsetsSpec)

/-- ITS FALSE NEIGHBOUR: 'it returns false'. Refute it at one input. -/
def floorOffsetsWrong : ChangeSpec := { name := "floorOffsets", fn := fun _ => fun
  | [d1, d2] => { results := [.lit (.bool false)], args := [d1, d2] }
  | _ => none }
def FloorOffsetsWrongFalsely : Prop := floorOffsetsRow.holds Try.pinned (OpenSpec.ofChange floorOffsetsWrong)

/-- 'linoleumlaw08.FloorLays': WHATEVER THE INPUT: true; the input reads as it did. -/
def floorLaysSpec : ChangeSpec := { name := "floorLays", fn := fun _ => fun
  | [d1, d2, d3] => { results := [.lit (.bool true)], args := [d1, d2, d3] }
  | _ => none }
def floorLaysRow : OpenClaim := { program := "ytejjeckiplihbaa", sum := "197ee14a643da2f5ca6cad369640b9a7d8e27e74652e38bb769c73c88d365b26", func := "linoleum/linoleumlaw08.FloorLays", spec := "floorLays", unfollowed := true, recurses := true, apart := false }
def FloorLaysSaid : Prop := floorLaysRow.holds Try.pinned (OpenSpec.ofChange floorLaysSpec)

/-- ITS FALSE NEIGHBOUR: 'it returns false'. Refute it at one input. -/
def floorLaysWrong : ChangeSpec := { name := "floorLays", fn := fun _ => fun
  | [d1, d2, d3] => { results := [.lit (.bool false)], args := [d1, d2, d3] }
  | _ => none }
def FloorLaysWrongFalsely : Prop := floorLaysRow.holds Try.pinned (OpenSpec.ofChange floorLaysWrong)

/-- 'linoleumlaw08.FloorPlane': WHATEVER THE INPUT: true; the input reads as it did. -/
def floorPlaneSpec : ChangeSpec := { name := "floorPlane", fn := fun _ => fun
  | [d1, d2, d3] => { results := [.lit (.bool true)], args := [d1, d2, d3] }
  | _ => none }
def floorPlaneRow : OpenClaim := { program := "ytejjeckiplihbaa", sum := "197ee14a643da2f5ca6cad369640b9a7d8e27e74652e38bb769c73c88d365b26", func := "linoleum/linoleumlaw08.FloorPlane", spec := "floorPlane", unfollowed := true, recurses := true, apart := false }
def FloorPlaneSaid : Prop := floorPlaneRow.holds Try.pinned (OpenSpec.ofChange floorPlaneSpec)

/-- ITS FALSE NEIGHBOUR: 'it returns false'. Refute it at one input. -/
def floorPlaneWrong : ChangeSpec := { name := "floorPlane", fn := fun _ => fun
  | [d1, d2, d3] => { results := [.lit (.bool false)], args := [d1, d2, d3] }
  | _ => none }
def FloorPlaneWrongFalsely : Prop := floorPlaneRow.holds Try.pinned (OpenSpec.ofChange floorPlaneWrong)

/-- 'linoleumlaw08.FloorFewest': WHATEVER THE INPUT: true; the input reads as it did. -/
def floorFewestSpec : ChangeSpec := { name := "floorFewest", fn := fun _ => fun
  | [d] => { results := [.lit (.bool true)], args := [d] }
  | _ => none }
def floorFewestRow : OpenClaim := { program := "ytejjeckiplihbaa", sum := "197ee14a643da2f5ca6cad369640b9a7d8e27e74652e38bb769c73c88d365b26", func := "linoleum/linoleumlaw08.FloorFewest", spec := "floorFewest", unfollowed := true, recurses := true, apart := false }
def FloorFewestSaid : Prop := floorFewestRow.holds Try.pinned (OpenSpec.ofChange floorFewestSpec)

/-- ITS FALSE NEIGHBOUR: 'it returns false'. Refute it at one input. -/
def floorFewestWrong : ChangeSpec := { name := "floorFewest", fn := fun _ => fun
  | [d] => { results := [.lit (.bool false)], args := [d] }
  | _ => none }
def FloorFewestWrongFalsely : Prop := floorFewestRow.holds Try.pinned (OpenSpec.ofChange floorFewestWrong)

/-- 'linoleumlaw08.FloorJobs': WHATEVER THE INPUT: true; the input reads as it did. -/
def floorJobsSpec : ChangeSpec := { name := "floorJobs", fn := fun _ => fun
  | [d1, d2] => { results := [.lit (.bool true)], args := [d1, d2] }
  | _ => none }
def floorJobsRow : OpenClaim := { program := "ytejjeckiplihbaa", sum := "197ee14a643da2f5ca6cad369640b9a7d8e27e74652e38bb769c73c88d365b26", func := "linoleum/linoleumlaw08.FloorJobs", spec := "floorJobs", unfollowed := true, recurses := true, apart := false }
def FloorJobsSaid : Prop := floorJobsRow.holds Try.pinned (OpenSpec.ofChange floorJobsSpec)

/-- ITS FALSE NEIGHBOUR: 'it returns false'. Refute it at one input. -/
def floorJobsWrong : ChangeSpec := { name := "floorJobs", fn := fun _ => fun
  | [d1, d2] => { results := [.lit (.bool false)], args := [d1, d2] }
  | _ => none }
def FloorJobsWrongFalsely : Prop := floorJobsRow.holds Try.pinned (OpenSpec.ofChange floorJobsWrong)

/-- 'linoleumlaw08.FloorOffcuts': WHATEVER THE INPUT: true; the input reads as it did. -/
def floorOffcutsSpec : ChangeSpec := { name := "floorOffcuts", fn := fun _ => fun
  | [d1, d2] => { results := [.lit (.bool true)], args := [d1, d2] }
  | _ => none }
def floorOffcutsRow : OpenClaim := { program := "ytejjeckiplihbaa", sum := "197ee14a643da2f5ca6cad369640b9a7d8e27e74652e38bb769c73c88d365b26", func := "linoleum/linoleumlaw08.FloorOffcuts", spec := "floorOffcuts", unfollowed := true, recurses := true, apart := false }
def FloorOffcutsSaid : Prop := floorOffcutsRow.holds Try.pinned (OpenSpec.ofChange floorOffcutsSpec)

/-- ITS FALSE NEIGHBOUR: 'it returns false'. Refute it at one input. -/
def floorOffcutsWrong : ChangeSpec := { name := "floorOffcuts", fn := fun _ => fun
  | [d1, d2] => { results := [.lit (.bool false)], args := [d1, d2] }
  | _ => none }
def FloorOffcutsWrongFalsely : Prop := floorOffcutsRow.holds Try.pinned (OpenSpec.ofChange floorOffcutsWrong)

/-- 'linoleumlaw08.FloorBounds': WHATEVER THE INPUT: true; the input reads as it did. -/
def floorBoundsSpec : ChangeSpec := { name := "floorBounds", fn := fun _ => fun
  | [d1, d2, d3] => { results := [.lit (.bool true)], args := [d1, d2, d3] }
  | _ => none }
def floorBoundsRow : OpenClaim := { program := "ytejjeckiplihbaa", sum := "197ee14a643da2f5ca6cad369640b9a7d8e27e74652e38bb769c73c88d365b26", func := "linoleum/linoleumlaw08.FloorBounds", spec := "floorBounds", unfollowed := true, recurses := true, apart := false }
def FloorBoundsSaid : Prop := floorBoundsRow.holds Try.pinned (OpenSpec.ofChange floorBoundsSpec)

/-- ITS FALSE NEIGHBOUR: 'it returns false'. Refute it at one input. -/
def floorBoundsWrong : ChangeSpec := { name := "floorBounds", fn := fun _ => fun
  | [d1, d2, d3] => { results := [.lit (.bool false)], args := [d1, d2, d3] }
  | _ => none }
def FloorBoundsWrongFalsely : Prop := floorBoundsRow.holds Try.pinned (OpenSpec.ofChange floorBoundsWrong)

/-- 'linoleumtop.TopFloors': WHATEVER THE INPUT: true; the input reads as it did. -/
def topFloorsSpec : ChangeSpec := { name := "topFloors", fn := fun _ => fun
  | [d1, d2, d3] => { results := [.lit (.bool true)], args := [d1, d2, d3] }
  | _ => none }
def topFloorsRow : OpenClaim := { program := "ytejjeckiplihbaa", sum := "197ee14a643da2f5ca6cad369640b9a7d8e27e74652e38bb769c73c88d365b26", func := "linoleum/linoleumtop.TopFloors", spec := "topFloors", unfollowed := true, recurses := true, apart := false }
def TopFloorsSaid : Prop := topFloorsRow.holds Try.pinned (OpenSpec.ofChange topFloorsSpec)

/-- ITS FALSE NEIGHBOUR: 'it returns false'. Refute it at one input. -/
def topFloorsWrong : ChangeSpec := { name := "topFloors", fn := fun _ => fun
  | [d1, d2, d3] => { results := [.lit (.bool false)], args := [d1, d2, d3] }
  | _ => none }
def TopFloorsWrongFalsely : Prop := topFloorsRow.holds Try.pinned (OpenSpec.ofChange topFloorsWrong)

/- THE SECOND FORM. 'bulk': how many values and letters a reading holds, each counted each time it is reached (what is shared counts as often as it is met; a slice's spare places count too). A statement '..UptoSaid' is the law's where the arguments, and the package variables that the reading takes, are together of bulk at most 1048576: NARROWER than '..Said'. Prove '..Said' where nothing that the law and all that it calls make is longer than what came in: it says more and counts as full. Else prove '..UptoSaid'. A law counts once. -/
mutual
def uptoBulk {H : Type} : DataW H → Nat
  | .lit (.string bytes) => bytes.length + 1
  | .lit _ => 1
  | .nil => 1
  | .ptr d => uptoBulk d + 1
  | .slice elems spare => uptoBulkAll elems + uptoBulkAll spare + 1
  | .agg parts => uptoBulkAll parts + 1
  | .iface _ d => uptoBulk d + 1
  | .map entries => uptoBulkEntries entries + 1
  | .held _ => 1
def uptoBulkAll {H : Type} : List (DataW H) → Nat
  | [] => 0
  | d :: r => uptoBulk d + uptoBulkAll r
def uptoBulkEntries {H : Type} : List (Lit × DataW H) → Nat
  | [] => 0
  | x :: r => uptoBulkEntry x + uptoBulkEntries r
def uptoBulkEntry {H : Type} : Lit × DataW H → Nat
  | (.string bytes, d) => bytes.length + uptoBulk d + 1
  | (_, d) => uptoBulk d + 1
 end
def uptoSmall : (H : Type) → List (DataW H) → Bool := fun _ ds => decide (uptoBulkAll ds ≤ 1048576)
def OpenSpec.upto (s : _root_.Go.ChangeSpec) : _root_.Go.OpenSpec := { _root_.Go.OpenSpec.ofChange s with cond := some uptoSmall }

/-- 'linoleumlaw08.FloorMoves', WHERE WHAT IT READS IS OF BULK AT MOST 1048576: true; the input reads as it did. -/
def floorMovesUptoRow : OpenClaim := { program := "ytejjeckiplihbaa", sum := "197ee14a643da2f5ca6cad369640b9a7d8e27e74652e38bb769c73c88d365b26", func := "linoleum/linoleumlaw08.FloorMoves", spec := "floorMoves", unfollowed := true, recurses := true, apart := false, narrowed := true }
def FloorMovesUptoSaid : Prop := floorMovesUptoRow.holds Try.pinned (OpenSpec.upto floorMovesSpec)

/-- 'linoleumlaw08.FloorNext', WHERE WHAT IT READS IS OF BULK AT MOST 1048576: true; the input reads as it did. -/
def floorNextUptoRow : OpenClaim := { program := "ytejjeckiplihbaa", sum := "197ee14a643da2f5ca6cad369640b9a7d8e27e74652e38bb769c73c88d365b26", func := "linoleum/linoleumlaw08.FloorNext", spec := "floorNext", unfollowed := true, recurses := true, apart := false, narrowed := true }
def FloorNextUptoSaid : Prop := floorNextUptoRow.holds Try.pinned (OpenSpec.upto floorNextSpec)

/-- 'linoleumlaw08.FloorRooms', WHERE WHAT IT READS IS OF BULK AT MOST 1048576: true; the input reads as it did. -/
def floorRoomsUptoRow : OpenClaim := { program := "ytejjeckiplihbaa", sum := "197ee14a643da2f5ca6cad369640b9a7d8e27e74652e38bb769c73c88d365b26", func := "linoleum/linoleumlaw08.FloorRooms", spec := "floorRooms", unfollowed := true, recurses := true, apart := false, narrowed := true }
def FloorRoomsUptoSaid : Prop := floorRoomsUptoRow.holds Try.pinned (OpenSpec.upto floorRoomsSpec)

/-- 'linoleumlaw08.FloorCovers', WHERE WHAT IT READS IS OF BULK AT MOST 1048576: true; the input reads as it did. -/
def floorCoversUptoRow : OpenClaim := { program := "ytejjeckiplihbaa", sum := "197ee14a643da2f5ca6cad369640b9a7d8e27e74652e38bb769c73c88d365b26", func := "linoleum/linoleumlaw08.FloorCovers", spec := "floorCovers", unfollowed := true, recurses := true, apart := false, narrowed := true }
def FloorCoversUptoSaid : Prop := floorCoversUptoRow.holds Try.pinned (OpenSpec.upto floorCoversSpec)

/-- 'linoleumlaw08.FloorStrips', WHERE WHAT IT READS IS OF BULK AT MOST 1048576: true; the input reads as it did. -/
def floorStripsUptoRow : OpenClaim := { program := "ytejjeckiplihbaa", sum := "197ee14a643da2f5ca6cad369640b9a7d8e27e74652e38bb769c73c88d365b26", func := "linoleum/linoleumlaw08.FloorStrips", spec := "floorStrips", unfollowed := true, recurses := true, apart := false, narrowed := true }
def FloorStripsUptoSaid : Prop := floorStripsUptoRow.holds Try.pinned (OpenSpec.upto floorStripsSpec)

/-- 'linoleumlaw08.FloorOffsets', WHERE WHAT IT READS IS OF BULK AT MOST 1048576: true; the input reads as it did. -/
def floorOffsetsUptoRow : OpenClaim := { program := "ytejjeckiplihbaa", sum := "197ee14a643da2f5ca6cad369640b9a7d8e27e74652e38bb769c73c88d365b26", func := "linoleum/linoleumlaw08.FloorOffsets", spec := "floorOffsets", unfollowed := true, recurses := true, apart := false, narrowed := true }
def FloorOffsetsUptoSaid : Prop := floorOffsetsUptoRow.holds Try.pinned (OpenSpec.upto floorOffsetsSpec)

/-- 'linoleumlaw08.FloorLays', WHERE WHAT IT READS IS OF BULK AT MOST 1048576: true; the input reads as it did. -/
def floorLaysUptoRow : OpenClaim := { program := "ytejjeckiplihbaa", sum := "197ee14a643da2f5ca6cad369640b9a7d8e27e74652e38bb769c73c88d365b26", func := "linoleum/linoleumlaw08.FloorLays", spec := "floorLays", unfollowed := true, recurses := true, apart := false, narrowed := true }
def FloorLaysUptoSaid : Prop := floorLaysUptoRow.holds Try.pinned (OpenSpec.upto floorLaysSpec)

/-- 'linoleumlaw08.FloorPlane', WHERE WHAT IT READS IS OF BULK AT MOST 1048576: true; the input reads as it did. -/
def floorPlaneUptoRow : OpenClaim := { program := "ytejjeckiplihbaa", sum := "197ee14a643da2f5ca6cad369640b9a7d8e27e74652e38bb769c73c88d365b26", func := "linoleum/linoleumlaw08.FloorPlane", spec := "floorPlane", unfollowed := true, recurses := true, apart := false, narrowed := true }
def FloorPlaneUptoSaid : Prop := floorPlaneUptoRow.holds Try.pinned (OpenSpec.upto floorPlaneSpec)

/-- 'linoleumlaw08.FloorFewest', WHERE WHAT IT READS IS OF BULK AT MOST 1048576: true; the input reads as it did. -/
def floorFewestUptoRow : OpenClaim := { program := "ytejjeckiplihbaa", sum := "197ee14a643da2f5ca6cad369640b9a7d8e27e74652e38bb769c73c88d365b26", func := "linoleum/linoleumlaw08.FloorFewest", spec := "floorFewest", unfollowed := true, recurses := true, apart := false, narrowed := true }
def FloorFewestUptoSaid : Prop := floorFewestUptoRow.holds Try.pinned (OpenSpec.upto floorFewestSpec)

/-- 'linoleumlaw08.FloorJobs', WHERE WHAT IT READS IS OF BULK AT MOST 1048576: true; the input reads as it did. -/
def floorJobsUptoRow : OpenClaim := { program := "ytejjeckiplihbaa", sum := "197ee14a643da2f5ca6cad369640b9a7d8e27e74652e38bb769c73c88d365b26", func := "linoleum/linoleumlaw08.FloorJobs", spec := "floorJobs", unfollowed := true, recurses := true, apart := false, narrowed := true }
def FloorJobsUptoSaid : Prop := floorJobsUptoRow.holds Try.pinned (OpenSpec.upto floorJobsSpec)

/-- 'linoleumlaw08.FloorOffcuts', WHERE WHAT IT READS IS OF BULK AT MOST 1048576: true; the input reads as it did. -/
def floorOffcutsUptoRow : OpenClaim := { program := "ytejjeckiplihbaa", sum := "197ee14a643da2f5ca6cad369640b9a7d8e27e74652e38bb769c73c88d365b26", func := "linoleum/linoleumlaw08.FloorOffcuts", spec := "floorOffcuts", unfollowed := true, recurses := true, apart := false, narrowed := true }
def FloorOffcutsUptoSaid : Prop := floorOffcutsUptoRow.holds Try.pinned (OpenSpec.upto floorOffcutsSpec)

/-- 'linoleumlaw08.FloorBounds', WHERE WHAT IT READS IS OF BULK AT MOST 1048576: true; the input reads as it did. -/
def floorBoundsUptoRow : OpenClaim := { program := "ytejjeckiplihbaa", sum := "197ee14a643da2f5ca6cad369640b9a7d8e27e74652e38bb769c73c88d365b26", func := "linoleum/linoleumlaw08.FloorBounds", spec := "floorBounds", unfollowed := true, recurses := true, apart := false, narrowed := true }
def FloorBoundsUptoSaid : Prop := floorBoundsUptoRow.holds Try.pinned (OpenSpec.upto floorBoundsSpec)

/-- 'linoleumtop.TopFloors', WHERE WHAT IT READS IS OF BULK AT MOST 1048576: true; the input reads as it did. -/
def topFloorsUptoRow : OpenClaim := { program := "ytejjeckiplihbaa", sum := "197ee14a643da2f5ca6cad369640b9a7d8e27e74652e38bb769c73c88d365b26", func := "linoleum/linoleumtop.TopFloors", spec := "topFloors", unfollowed := true, recurses := true, apart := false, narrowed := true }
def TopFloorsUptoSaid : Prop := topFloorsUptoRow.holds Try.pinned (OpenSpec.upto topFloorsSpec)

end Rows
end Go.Proofs.Ytejjeckiplihbaa
