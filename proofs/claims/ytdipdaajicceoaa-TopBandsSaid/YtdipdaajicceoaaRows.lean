/-
  No cell of these rows narrows 'for every input' (looked for: loops, veiled, ifaces, maps, wideKeys, modest, calm, conditions, laid).
  DERIVED. THE GIVEN ROWS OF THIS SEAT. 13 by the template 'for every input the law returns true; each argument reads behind the call as it read before'; 0 by the template 'total and deterministic' (their statements: YtdipdaajicceoaaTotals.lean).
  GIVEN WITH THE SEED: the statements are not yours to turn. If you find one false, say at which input.
  Laid BY PROGRAM, IN A SANDBOX (cutbox-rows.mjs): the forced cells as the released guide's own fill.sh prints them over the translation 532fbd4fa4770941… (all of the seat's roots in one cut). By AI agents, Wed Nov 11 2026. No macro, syntax, notation, axiom, sorry.
-/
import Derived.Test.YtdipdaajicceoaaChecked
import GoSem.Claim
import GoSem.ClaimJoined
import GoSem.ClaimMapViews
import Derived.JoinedTies
import Derived.KernelRfl
namespace Go.Proofs.Ytdipdaajicceoaa
/- THE CELL 'sum', in the pinned program and in every row, IS THE sha256 OF THE DUMP (.gsa) THAT YtdipdaajicceoaaProg.lean LOADS. Nothing in Lean hashes anything: it is a label: what it is worth is what the hold of that sum in a sandbox is worth. -/
noncomputable def Try.pinned : Pinned := { name := "ytdipdaajicceoaa", sum := "532fbd4fa477094105c83db8621a562cfd9a9769f952deeef43ba4699085209e", checked := Try.checked }
namespace Rows
def none {H : Type} : Left H := { results := [], args := [] }

/-- 'linoleumlaw02.BandNormals': WHATEVER THE INPUT: true; the input reads as it did. -/
def bandNormalsSpec : ChangeSpec := { name := "bandNormals", fn := fun _ => fun
  | [d] => { results := [.lit (.bool true)], args := [d] }
  | _ => none }
def bandNormalsRow : OpenClaim := { program := "ytdipdaajicceoaa", sum := "532fbd4fa477094105c83db8621a562cfd9a9769f952deeef43ba4699085209e", func := "linoleum/linoleumlaw02.BandNormals", spec := "bandNormals", unfollowed := true, recurses := true, apart := false }
def BandNormalsSaid : Prop := bandNormalsRow.holds Try.pinned (OpenSpec.ofChange bandNormalsSpec)

/-- ITS FALSE NEIGHBOUR: 'it returns false'. Refute it at one input. -/
def bandNormalsWrong : ChangeSpec := { name := "bandNormals", fn := fun _ => fun
  | [d] => { results := [.lit (.bool false)], args := [d] }
  | _ => none }
def BandNormalsWrongFalsely : Prop := bandNormalsRow.holds Try.pinned (OpenSpec.ofChange bandNormalsWrong)

/-- 'linoleumlaw02.BandJoins': WHATEVER THE INPUT: true; the input reads as it did. -/
def bandJoinsSpec : ChangeSpec := { name := "bandJoins", fn := fun _ => fun
  | [d1, d2] => { results := [.lit (.bool true)], args := [d1, d2] }
  | _ => none }
def bandJoinsRow : OpenClaim := { program := "ytdipdaajicceoaa", sum := "532fbd4fa477094105c83db8621a562cfd9a9769f952deeef43ba4699085209e", func := "linoleum/linoleumlaw02.BandJoins", spec := "bandJoins", unfollowed := true, recurses := true, apart := false }
def BandJoinsSaid : Prop := bandJoinsRow.holds Try.pinned (OpenSpec.ofChange bandJoinsSpec)

/-- ITS FALSE NEIGHBOUR: 'it returns false'. Refute it at one input. -/
def bandJoinsWrong : ChangeSpec := { name := "bandJoins", fn := fun _ => fun
  | [d1, d2] => { results := [.lit (.bool false)], args := [d1, d2] }
  | _ => none }
def BandJoinsWrongFalsely : Prop := bandJoinsRow.holds Try.pinned (OpenSpec.ofChange bandJoinsWrong)

/-- 'linoleumlaw02.BandSlices': WHATEVER THE INPUT: true; the input reads as it did. -/
def bandSlicesSpec : ChangeSpec := { name := "bandSlices", fn := fun _ => fun
  | [d1, d2, d3] => { results := [.lit (.bool true)], args := [d1, d2, d3] }
  | _ => none }
def bandSlicesRow : OpenClaim := { program := "ytdipdaajicceoaa", sum := "532fbd4fa477094105c83db8621a562cfd9a9769f952deeef43ba4699085209e", func := "linoleum/linoleumlaw02.BandSlices", spec := "bandSlices", unfollowed := true, recurses := true, apart := false }
def BandSlicesSaid : Prop := bandSlicesRow.holds Try.pinned (OpenSpec.ofChange bandSlicesSpec)

/-- ITS FALSE NEIGHBOUR: 'it returns false'. Refute it at one input. -/
def bandSlicesWrong : ChangeSpec := { name := "bandSlices", fn := fun _ => fun
  | [d1, d2, d3] => { results := [.lit (.bool false)], args := [d1, d2, d3] }
  | _ => none }
def BandSlicesWrongFalsely : Prop := bandSlicesRow.holds Try.pinned (OpenSpec.ofChange bandSlicesWrong)

/-- 'linoleumlaw02.BandMarks': WHATEVER THE INPUT: true; the input reads as it did. -/
def bandMarksSpec : ChangeSpec := { name := "bandMarks", fn := fun _ => fun
  | [d1, d2] => { results := [.lit (.bool true)], args := [d1, d2] }
  | _ => none }
def bandMarksRow : OpenClaim := { program := "ytdipdaajicceoaa", sum := "532fbd4fa477094105c83db8621a562cfd9a9769f952deeef43ba4699085209e", func := "linoleum/linoleumlaw02.BandMarks", spec := "bandMarks", unfollowed := true, recurses := true, apart := false }
def BandMarksSaid : Prop := bandMarksRow.holds Try.pinned (OpenSpec.ofChange bandMarksSpec)

/-- ITS FALSE NEIGHBOUR: 'it returns false'. Refute it at one input. -/
def bandMarksWrong : ChangeSpec := { name := "bandMarks", fn := fun _ => fun
  | [d1, d2] => { results := [.lit (.bool false)], args := [d1, d2] }
  | _ => none }
def BandMarksWrongFalsely : Prop := bandMarksRow.holds Try.pinned (OpenSpec.ofChange bandMarksWrong)

/-- 'linoleumlaw02.BandFinds': WHATEVER THE INPUT: true; the input reads as it did. -/
def bandFindsSpec : ChangeSpec := { name := "bandFinds", fn := fun _ => fun
  | [d1, d2] => { results := [.lit (.bool true)], args := [d1, d2] }
  | _ => none }
def bandFindsRow : OpenClaim := { program := "ytdipdaajicceoaa", sum := "532fbd4fa477094105c83db8621a562cfd9a9769f952deeef43ba4699085209e", func := "linoleum/linoleumlaw02.BandFinds", spec := "bandFinds", unfollowed := true, recurses := true, apart := false }
def BandFindsSaid : Prop := bandFindsRow.holds Try.pinned (OpenSpec.ofChange bandFindsSpec)

/-- ITS FALSE NEIGHBOUR: 'it returns false'. Refute it at one input. -/
def bandFindsWrong : ChangeSpec := { name := "bandFinds", fn := fun _ => fun
  | [d1, d2] => { results := [.lit (.bool false)], args := [d1, d2] }
  | _ => none }
def BandFindsWrongFalsely : Prop := bandFindsRow.holds Try.pinned (OpenSpec.ofChange bandFindsWrong)

/-- 'linoleumlaw02.BandSames': WHATEVER THE INPUT: true; the input reads as it did. -/
def bandSamesSpec : ChangeSpec := { name := "bandSames", fn := fun _ => fun
  | [d1, d2] => { results := [.lit (.bool true)], args := [d1, d2] }
  | _ => none }
def bandSamesRow : OpenClaim := { program := "ytdipdaajicceoaa", sum := "532fbd4fa477094105c83db8621a562cfd9a9769f952deeef43ba4699085209e", func := "linoleum/linoleumlaw02.BandSames", spec := "bandSames", unfollowed := true, recurses := true, apart := false }
def BandSamesSaid : Prop := bandSamesRow.holds Try.pinned (OpenSpec.ofChange bandSamesSpec)

/-- ITS FALSE NEIGHBOUR: 'it returns false'. Refute it at one input. -/
def bandSamesWrong : ChangeSpec := { name := "bandSames", fn := fun _ => fun
  | [d1, d2] => { results := [.lit (.bool false)], args := [d1, d2] }
  | _ => none }
def BandSamesWrongFalsely : Prop := bandSamesRow.holds Try.pinned (OpenSpec.ofChange bandSamesWrong)

/-- 'linoleumlaw02.BandOvers': WHATEVER THE INPUT: true; the input reads as it did. -/
def bandOversSpec : ChangeSpec := { name := "bandOvers", fn := fun _ => fun
  | [d1, d2, d3] => { results := [.lit (.bool true)], args := [d1, d2, d3] }
  | _ => none }
def bandOversRow : OpenClaim := { program := "ytdipdaajicceoaa", sum := "532fbd4fa477094105c83db8621a562cfd9a9769f952deeef43ba4699085209e", func := "linoleum/linoleumlaw02.BandOvers", spec := "bandOvers", unfollowed := true, recurses := true, apart := false }
def BandOversSaid : Prop := bandOversRow.holds Try.pinned (OpenSpec.ofChange bandOversSpec)

/-- ITS FALSE NEIGHBOUR: 'it returns false'. Refute it at one input. -/
def bandOversWrong : ChangeSpec := { name := "bandOvers", fn := fun _ => fun
  | [d1, d2, d3] => { results := [.lit (.bool false)], args := [d1, d2, d3] }
  | _ => none }
def BandOversWrongFalsely : Prop := bandOversRow.holds Try.pinned (OpenSpec.ofChange bandOversWrong)

/-- 'linoleumlaw02.BandQueries': WHATEVER THE INPUT: true; the input reads as it did. -/
def bandQueriesSpec : ChangeSpec := { name := "bandQueries", fn := fun _ => fun
  | [d1, d2, d3] => { results := [.lit (.bool true)], args := [d1, d2, d3] }
  | _ => none }
def bandQueriesRow : OpenClaim := { program := "ytdipdaajicceoaa", sum := "532fbd4fa477094105c83db8621a562cfd9a9769f952deeef43ba4699085209e", func := "linoleum/linoleumlaw02.BandQueries", spec := "bandQueries", unfollowed := true, recurses := true, apart := false }
def BandQueriesSaid : Prop := bandQueriesRow.holds Try.pinned (OpenSpec.ofChange bandQueriesSpec)

/-- ITS FALSE NEIGHBOUR: 'it returns false'. Refute it at one input. -/
def bandQueriesWrong : ChangeSpec := { name := "bandQueries", fn := fun _ => fun
  | [d1, d2, d3] => { results := [.lit (.bool false)], args := [d1, d2, d3] }
  | _ => none }
def BandQueriesWrongFalsely : Prop := bandQueriesRow.holds Try.pinned (OpenSpec.ofChange bandQueriesWrong)

/-- 'linoleumlaw02.BandChanges': WHATEVER THE INPUT: true; the input reads as it did. -/
def bandChangesSpec : ChangeSpec := { name := "bandChanges", fn := fun _ => fun
  | [d1, d2] => { results := [.lit (.bool true)], args := [d1, d2] }
  | _ => none }
def bandChangesRow : OpenClaim := { program := "ytdipdaajicceoaa", sum := "532fbd4fa477094105c83db8621a562cfd9a9769f952deeef43ba4699085209e", func := "linoleum/linoleumlaw02.BandChanges", spec := "bandChanges", unfollowed := true, recurses := true, apart := false }
def BandChangesSaid : Prop := bandChangesRow.holds Try.pinned (OpenSpec.ofChange bandChangesSpec)

/-- ITS FALSE NEIGHBOUR: 'it returns false'. Refute it at one input. -/
def bandChangesWrong : ChangeSpec := { name := "bandChanges", fn := fun _ => fun
  | [d1, d2] => { results := [.lit (.bool false)], args := [d1, d2] }
  | _ => none }
def BandChangesWrongFalsely : Prop := bandChangesRow.holds Try.pinned (OpenSpec.ofChange bandChangesWrong)

/-- 'linoleumlaw02.BandAgrees': WHATEVER THE INPUT: true; the input reads as it did. -/
def bandAgreesSpec : ChangeSpec := { name := "bandAgrees", fn := fun _ => fun
  | [d1, d2] => { results := [.lit (.bool true)], args := [d1, d2] }
  | _ => none }
def bandAgreesRow : OpenClaim := { program := "ytdipdaajicceoaa", sum := "532fbd4fa477094105c83db8621a562cfd9a9769f952deeef43ba4699085209e", func := "linoleum/linoleumlaw02.BandAgrees", spec := "bandAgrees", unfollowed := true, recurses := true, apart := false }
def BandAgreesSaid : Prop := bandAgreesRow.holds Try.pinned (OpenSpec.ofChange bandAgreesSpec)

/-- ITS FALSE NEIGHBOUR: 'it returns false'. Refute it at one input. -/
def bandAgreesWrong : ChangeSpec := { name := "bandAgrees", fn := fun _ => fun
  | [d1, d2] => { results := [.lit (.bool false)], args := [d1, d2] }
  | _ => none }
def BandAgreesWrongFalsely : Prop := bandAgreesRow.holds Try.pinned (OpenSpec.ofChange bandAgreesWrong)

/-- 'linoleumlaw02.BandFindsSlices': WHATEVER THE INPUT: true; the input reads as it did. -/
def bandFindsSlicesSpec : ChangeSpec := { name := "bandFindsSlices", fn := fun _ => fun
  | [d1, d2, d3] => { results := [.lit (.bool true)], args := [d1, d2, d3] }
  | _ => none }
def bandFindsSlicesRow : OpenClaim := { program := "ytdipdaajicceoaa", sum := "532fbd4fa477094105c83db8621a562cfd9a9769f952deeef43ba4699085209e", func := "linoleum/linoleumlaw02.BandFindsSlices", spec := "bandFindsSlices", unfollowed := true, recurses := true, apart := false }
def BandFindsSlicesSaid : Prop := bandFindsSlicesRow.holds Try.pinned (OpenSpec.ofChange bandFindsSlicesSpec)

/-- ITS FALSE NEIGHBOUR: 'it returns false'. Refute it at one input. -/
def bandFindsSlicesWrong : ChangeSpec := { name := "bandFindsSlices", fn := fun _ => fun
  | [d1, d2, d3] => { results := [.lit (.bool false)], args := [d1, d2, d3] }
  | _ => none }
def BandFindsSlicesWrongFalsely : Prop := bandFindsSlicesRow.holds Try.pinned (OpenSpec.ofChange bandFindsSlicesWrong)

/-- 'linoleumlaw02.BandMeans': WHATEVER THE INPUT: true; the input reads as it did. -/
def bandMeansSpec : ChangeSpec := { name := "bandMeans", fn := fun _ => fun
  | [d1, d2, d3] => { results := [.lit (.bool true)], args := [d1, d2, d3] }
  | _ => none }
def bandMeansRow : OpenClaim := { program := "ytdipdaajicceoaa", sum := "532fbd4fa477094105c83db8621a562cfd9a9769f952deeef43ba4699085209e", func := "linoleum/linoleumlaw02.BandMeans", spec := "bandMeans", unfollowed := true, recurses := true, apart := false }
def BandMeansSaid : Prop := bandMeansRow.holds Try.pinned (OpenSpec.ofChange bandMeansSpec)

/-- ITS FALSE NEIGHBOUR: 'it returns false'. Refute it at one input. -/
def bandMeansWrong : ChangeSpec := { name := "bandMeans", fn := fun _ => fun
  | [d1, d2, d3] => { results := [.lit (.bool false)], args := [d1, d2, d3] }
  | _ => none }
def BandMeansWrongFalsely : Prop := bandMeansRow.holds Try.pinned (OpenSpec.ofChange bandMeansWrong)

/-- 'linoleumtop.TopBands': WHATEVER THE INPUT: true; the input reads as it did. -/
def topBandsSpec : ChangeSpec := { name := "topBands", fn := fun _ => fun
  | [d1, d2, d3] => { results := [.lit (.bool true)], args := [d1, d2, d3] }
  | _ => none }
def topBandsRow : OpenClaim := { program := "ytdipdaajicceoaa", sum := "532fbd4fa477094105c83db8621a562cfd9a9769f952deeef43ba4699085209e", func := "linoleum/linoleumtop.TopBands", spec := "topBands", unfollowed := true, recurses := true, apart := false }
def TopBandsSaid : Prop := topBandsRow.holds Try.pinned (OpenSpec.ofChange topBandsSpec)

/-- ITS FALSE NEIGHBOUR: 'it returns false'. Refute it at one input. -/
def topBandsWrong : ChangeSpec := { name := "topBands", fn := fun _ => fun
  | [d1, d2, d3] => { results := [.lit (.bool false)], args := [d1, d2, d3] }
  | _ => none }
def TopBandsWrongFalsely : Prop := topBandsRow.holds Try.pinned (OpenSpec.ofChange topBandsWrong)

/- THE SECOND FORM. 'bulk': how many values and letters a reading holds, each counted each time it is reached (what is shared counts as often as it is met; a slice's spare places count too). A statement '..UptoSaid' is the law's where the arguments, and the package variables that the reading takes, are together of bulk at most 1048576: NARROWER than '..Said'. Prove '..Said' where nothing that the law and all that it calls make is longer than what came in: it says more and counts as full. Else prove '..UptoSaid'. A law counts once. -/
mutual
def uptoBulk {H : Type} : DataW H → Nat
  | .lit (.string bytes) => bytes.length + 1
  | .lit _ => 1
  | .nil => 1
  | .ptr d => uptoBulk d + 1
  | .slice elems spare => uptoBulkAll elems + uptoBulkAll spare + 1
  | .agg parts => uptoBulkAll parts + 1
  | .iface _ d => uptoBulk d + 1
  | .map entries => uptoBulkEntries entries + 1
  | .held _ => 1
def uptoBulkAll {H : Type} : List (DataW H) → Nat
  | [] => 0
  | d :: r => uptoBulk d + uptoBulkAll r
def uptoBulkEntries {H : Type} : List (Lit × DataW H) → Nat
  | [] => 0
  | x :: r => uptoBulkEntry x + uptoBulkEntries r
def uptoBulkEntry {H : Type} : Lit × DataW H → Nat
  | (.string bytes, d) => bytes.length + uptoBulk d + 1
  | (_, d) => uptoBulk d + 1
 end
def uptoSmall : (H : Type) → List (DataW H) → Bool := fun _ ds => decide (uptoBulkAll ds ≤ 1048576)
def OpenSpec.upto (s : _root_.Go.ChangeSpec) : _root_.Go.OpenSpec := { _root_.Go.OpenSpec.ofChange s with cond := some uptoSmall }

/-- 'linoleumlaw02.BandNormals', WHERE WHAT IT READS IS OF BULK AT MOST 1048576: true; the input reads as it did. -/
def bandNormalsUptoRow : OpenClaim := { program := "ytdipdaajicceoaa", sum := "532fbd4fa477094105c83db8621a562cfd9a9769f952deeef43ba4699085209e", func := "linoleum/linoleumlaw02.BandNormals", spec := "bandNormals", unfollowed := true, recurses := true, apart := false, narrowed := true }
def BandNormalsUptoSaid : Prop := bandNormalsUptoRow.holds Try.pinned (OpenSpec.upto bandNormalsSpec)

/-- 'linoleumlaw02.BandJoins', WHERE WHAT IT READS IS OF BULK AT MOST 1048576: true; the input reads as it did. -/
def bandJoinsUptoRow : OpenClaim := { program := "ytdipdaajicceoaa", sum := "532fbd4fa477094105c83db8621a562cfd9a9769f952deeef43ba4699085209e", func := "linoleum/linoleumlaw02.BandJoins", spec := "bandJoins", unfollowed := true, recurses := true, apart := false, narrowed := true }
def BandJoinsUptoSaid : Prop := bandJoinsUptoRow.holds Try.pinned (OpenSpec.upto bandJoinsSpec)

/-- 'linoleumlaw02.BandSlices', WHERE WHAT IT READS IS OF BULK AT MOST 1048576: true; the input reads as it did. -/
def bandSlicesUptoRow : OpenClaim := { program := "ytdipdaajicceoaa", sum := "532fbd4fa477094105c83db8621a562cfd9a9769f952deeef43ba4699085209e", func := "linoleum/linoleumlaw02.BandSlices", spec := "bandSlices", unfollowed := true, recurses := true, apart := false, narrowed := true }
def BandSlicesUptoSaid : Prop := bandSlicesUptoRow.holds Try.pinned (OpenSpec.upto bandSlicesSpec)

/-- 'linoleumlaw02.BandMarks', WHERE WHAT IT READS IS OF BULK AT MOST 1048576: true; the input reads as it did. -/
def bandMarksUptoRow : OpenClaim := { program := "ytdipdaajicceoaa", sum := "532fbd4fa477094105c83db8621a562cfd9a9769f952deeef43ba4699085209e", func := "linoleum/linoleumlaw02.BandMarks", spec := "bandMarks", unfollowed := true, recurses := true, apart := false, narrowed := true }
def BandMarksUptoSaid : Prop := bandMarksUptoRow.holds Try.pinned (OpenSpec.upto bandMarksSpec)

/-- 'linoleumlaw02.BandFinds', WHERE WHAT IT READS IS OF BULK AT MOST 1048576: true; the input reads as it did. -/
def bandFindsUptoRow : OpenClaim := { program := "ytdipdaajicceoaa", sum := "532fbd4fa477094105c83db8621a562cfd9a9769f952deeef43ba4699085209e", func := "linoleum/linoleumlaw02.BandFinds", spec := "bandFinds", unfollowed := true, recurses := true, apart := false, narrowed := true }
def BandFindsUptoSaid : Prop := bandFindsUptoRow.holds Try.pinned (OpenSpec.upto bandFindsSpec)

/-- 'linoleumlaw02.BandSames', WHERE WHAT IT READS IS OF BULK AT MOST 1048576: true; the input reads as it did. -/
def bandSamesUptoRow : OpenClaim := { program := "ytdipdaajicceoaa", sum := "532fbd4fa477094105c83db8621a562cfd9a9769f952deeef43ba4699085209e", func := "linoleum/linoleumlaw02.BandSames", spec := "bandSames", unfollowed := true, recurses := true, apart := false, narrowed := true }
def BandSamesUptoSaid : Prop := bandSamesUptoRow.holds Try.pinned (OpenSpec.upto bandSamesSpec)

/-- 'linoleumlaw02.BandOvers', WHERE WHAT IT READS IS OF BULK AT MOST 1048576: true; the input reads as it did. -/
def bandOversUptoRow : OpenClaim := { program := "ytdipdaajicceoaa", sum := "532fbd4fa477094105c83db8621a562cfd9a9769f952deeef43ba4699085209e", func := "linoleum/linoleumlaw02.BandOvers", spec := "bandOvers", unfollowed := true, recurses := true, apart := false, narrowed := true }
def BandOversUptoSaid : Prop := bandOversUptoRow.holds Try.pinned (OpenSpec.upto bandOversSpec)

/-- 'linoleumlaw02.BandQueries', WHERE WHAT IT READS IS OF BULK AT MOST 1048576: true; the input reads as it did. -/
def bandQueriesUptoRow : OpenClaim := { program := "ytdipdaajicceoaa", sum := "532fbd4fa477094105c83db8621a562cfd9a9769f952deeef43ba4699085209e", func := "linoleum/linoleumlaw02.BandQueries", spec := "bandQueries", unfollowed := true, recurses := true, apart := false, narrowed := true }
def BandQueriesUptoSaid : Prop := bandQueriesUptoRow.holds Try.pinned (OpenSpec.upto bandQueriesSpec)

/-- 'linoleumlaw02.BandChanges', WHERE WHAT IT READS IS OF BULK AT MOST 1048576: true; the input reads as it did. -/
def bandChangesUptoRow : OpenClaim := { program := "ytdipdaajicceoaa", sum := "532fbd4fa477094105c83db8621a562cfd9a9769f952deeef43ba4699085209e", func := "linoleum/linoleumlaw02.BandChanges", spec := "bandChanges", unfollowed := true, recurses := true, apart := false, narrowed := true }
def BandChangesUptoSaid : Prop := bandChangesUptoRow.holds Try.pinned (OpenSpec.upto bandChangesSpec)

/-- 'linoleumlaw02.BandAgrees', WHERE WHAT IT READS IS OF BULK AT MOST 1048576: true; the input reads as it did. -/
def bandAgreesUptoRow : OpenClaim := { program := "ytdipdaajicceoaa", sum := "532fbd4fa477094105c83db8621a562cfd9a9769f952deeef43ba4699085209e", func := "linoleum/linoleumlaw02.BandAgrees", spec := "bandAgrees", unfollowed := true, recurses := true, apart := false, narrowed := true }
def BandAgreesUptoSaid : Prop := bandAgreesUptoRow.holds Try.pinned (OpenSpec.upto bandAgreesSpec)

/-- 'linoleumlaw02.BandFindsSlices', WHERE WHAT IT READS IS OF BULK AT MOST 1048576: true; the input reads as it did. -/
def bandFindsSlicesUptoRow : OpenClaim := { program := "ytdipdaajicceoaa", sum := "532fbd4fa477094105c83db8621a562cfd9a9769f952deeef43ba4699085209e", func := "linoleum/linoleumlaw02.BandFindsSlices", spec := "bandFindsSlices", unfollowed := true, recurses := true, apart := false, narrowed := true }
def BandFindsSlicesUptoSaid : Prop := bandFindsSlicesUptoRow.holds Try.pinned (OpenSpec.upto bandFindsSlicesSpec)

/-- 'linoleumlaw02.BandMeans', WHERE WHAT IT READS IS OF BULK AT MOST 1048576: true; the input reads as it did. -/
def bandMeansUptoRow : OpenClaim := { program := "ytdipdaajicceoaa", sum := "532fbd4fa477094105c83db8621a562cfd9a9769f952deeef43ba4699085209e", func := "linoleum/linoleumlaw02.BandMeans", spec := "bandMeans", unfollowed := true, recurses := true, apart := false, narrowed := true }
def BandMeansUptoSaid : Prop := bandMeansUptoRow.holds Try.pinned (OpenSpec.upto bandMeansSpec)

/-- 'linoleumtop.TopBands', WHERE WHAT IT READS IS OF BULK AT MOST 1048576: true; the input reads as it did. -/
def topBandsUptoRow : OpenClaim := { program := "ytdipdaajicceoaa", sum := "532fbd4fa477094105c83db8621a562cfd9a9769f952deeef43ba4699085209e", func := "linoleum/linoleumtop.TopBands", spec := "topBands", unfollowed := true, recurses := true, apart := false, narrowed := true }
def TopBandsUptoSaid : Prop := topBandsUptoRow.holds Try.pinned (OpenSpec.upto topBandsSpec)

end Rows
end Go.Proofs.Ytdipdaajicceoaa
